/-
  Chapter 16: package tree: the nodes as a list; trim.
-/
import Derived.Test.YtonhbeapffiibaaTreD
namespace Go.Proofs.Ytonhbeapffiibaa
open Go.HL

/-- A node as data: 'up' is the parent's number, or -1. -/
structure An where
  name : Int
  up : Int
  st : Int → Bool
  ch : Int → Bool
  gone : Bool
instance : Inhabited An := ⟨⟨0, -1, none', none', false⟩⟩

structure NodesAt (h : Hp) (L : List Pl) (A : List An) : Prop where
  len : L.length = A.length
  diff : Dist L
  node : ∀ j, j < L.length → NodeAt h (nth L j) (nth A j).name (upV L (nth A j).up) (nth A j).st (nth A j).ch (nth A j).gone

def grown (b : Bu) (t : List Nd) (a : Int) : List An :=
  t.map (fun x => ⟨x.name, x.par, hits b x.set a false, none', false⟩) ++ t.mapIdx (fun i x => ⟨0, i, hits b x.set a true, none', false⟩)

theorem grown_length (b : Bu) (t : List Nd) (a : Int) : (grown b t a).length = 2 * t.length := by simp [grown]; omega
theorem grown_old {b : Bu} {t : List Nd} {a : Int} {j : Nat} (h : j < t.length) : nth (grown b t a) j = ⟨(nth t j).name, (nth t j).par, hits b (nth t j).set a false, none', false⟩ := by
  unfold grown
  rw [nth_left (by simpa using h), nth_eq (by simpa using h), nth_eq h]; simp
theorem grown_new {b : Bu} {t : List Nd} {a : Int} {j : Nat} (h : j < t.length) : nth (grown b t a) (t.length + j) = ⟨0, j, hits b (nth t j).set a true, none', false⟩ := by
  unfold grown
  rw [nth_eq (by simp; omega), List.getElem_append_right (by simp), nth_eq h]; simp

theorem Grown.nodes {b : Bu} {t : List Nd} {a : Int} {h0 h : Hp} {Lo Ln : List Pl} (hG : Grown b t t.length a h0 h Lo Ln) (hpar : ∀ j, j < t.length → (nth t j).par < j) : NodesAt h (Lo ++ Ln) (grown b t a) := by
  have hlo := hG.lo
  have hln := hG.ln
  refine ⟨by rw [grown_length]; simp; omega, hG.diff, fun j hj => ?_⟩
  rw [List.length_append] at hj
  by_cases hjt : j < t.length
  · have := hpar j hjt
    rw [grown_old hjt, nth_left (by omega), upV_app (by simp only; omega)]
    exact hG.old j hjt
  · obtain ⟨k, rfl⟩ : ∃ k, j = t.length + k := ⟨j - t.length, by omega⟩
    have hk : k < t.length := by omega
    rw [grown_new hk]
    have e1 : nth (Lo ++ Ln) (t.length + k) = nth Ln k := by
      rw [nth_eq (by simp; omega), List.getElem_append_right (by omega), nth_eq (by omega)]
      simp [hlo]
    have e2 : upV (Lo ++ Ln) (k : Int) = .ep (nth Lo k).id 0 0 := by
      rw [upV_app (by omega)]
      unfold upV
      rw [if_neg (by omega)]; simp
    rw [e1]; simp only; rw [e2]
    exact hG.new k hk

/-- One node keeps the states of its parent that no older sibling has. -/
def trimStep (A : List An) (i : Nat) : List An :=
  if (nth A i).up < 0 then A else
  let st' : Int → Bool := fun q => (nth A i).st q && ((nth A (nth A i).up.toNat).st q && !(nth A (nth A i).up.toNat).ch q)
  (A.set i { nth A i with st := st' }).set (nth A i).up.toNat { nth A (nth A i).up.toNat with ch := fun q => (nth A (nth A i).up.toNat).ch q || st' q }

def trimTo (A : List An) : Nat → List An
  | 0 => A
  | i + 1 => trimStep (trimTo A i) i

theorem trimStep_length (A : List An) (i : Nat) : (trimStep A i).length = A.length := by
  unfold trimStep; split <;> simp
theorem trimTo_length (A : List An) : ∀ i, (trimTo A i).length = A.length
  | 0 => rfl
  | i + 1 => by rw [trimTo, trimStep_length, trimTo_length A i]

theorem nth_set {α : Type} [Inhabited α] {l : List α} {i j : Nat} {x : α} (hj : j < l.length) : nth (l.set i x) j = if i = j then x else nth l j := by
  rw [nth_eq (by simpa using hj), List.getElem_set, nth_eq hj]

theorem trimStep_up (A : List An) (i j : Nat) (hj : j < A.length) : (nth (trimStep A i) j).up = (nth A j).up ∧ (nth (trimStep A i) j).name = (nth A j).name ∧ (nth (trimStep A i) j).gone = (nth A j).gone := by
  unfold trimStep
  split
  · exact ⟨rfl, rfl, rfl⟩
  · simp only
    rw [nth_set (by simpa using hj)]
    split
    · rename_i h; subst h; exact ⟨rfl, rfl, rfl⟩
    · rw [nth_set hj]
      split
      · rename_i h; subst h; exact ⟨rfl, rfl, rfl⟩
      · exact ⟨rfl, rfl, rfl⟩

theorem trimTo_up (A : List An) : ∀ (i j : Nat), j < A.length → (nth (trimTo A i) j).up = (nth A j).up ∧ (nth (trimTo A i) j).name = (nth A j).name ∧ (nth (trimTo A i) j).gone = (nth A j).gone
  | 0, j, _ => ⟨rfl, rfl, rfl⟩
  | i + 1, j, hj => by
    obtain ⟨h1, h2, h3⟩ := trimStep_up (trimTo A i) i j (by rw [trimTo_length]; exact hj)
    obtain ⟨g1, g2, g3⟩ := trimTo_up A i j hj
    exact ⟨h1.trans g1, h2.trans g2, h3.trans g3⟩

theorem Dist.at {L : List Pl} (hd : Dist L) {i j : Nat} (hi : i < L.length) (hj : j < L.length) (hne : i ≠ j) : Apart (nth L i) (nth L j) := by
  have hp := List.pairwise_iff_getElem.1 hd.1
  rw [nth_eq hi, nth_eq hj]
  rcases Nat.lt_or_gt_of_ne hne with h | h
  · exact hp i j hi hj h
  · have := hp j i hj hi h
    unfold Apart at this ⊢; omega

/-- One node's states and another's children are written anew. -/
theorem NodesAt.trim {h h' : Hp} {L : List Pl} {A : List An} (hn : NodesAt h L A) {i P : Nat} (hi : i < L.length) (hP : P < L.length) (hiP : i ≠ P) {s c : Int → Bool}
    (hs : SetAt h' (nth L i).sid s) (hc : SetAt h' (nth L P).cid c) (hf : ∀ j o, h[j]? = some o → j ≠ (nth L i).sid → j ≠ (nth L P).cid → h'[j]? = some o) :
    NodesAt h' L ((A.set i { nth A i with st := s }).set P { nth A P with ch := c }) := by
  have hl := hn.len
  have hns := (hn.node i hi).2.1
  have hnc := (hn.node P hP).2.2
  have hrow : ∀ k, k < L.length → (nth L k).id ≠ (nth L i).sid ∧ (nth L k).id ≠ (nth L P).cid := fun k hk => by
    have h1 := (hn.node k hk).1
    obtain ⟨q1, q2, q3, _⟩ := hns
    obtain ⟨r1, r2, r3, _⟩ := hnc
    refine ⟨fun e => ?_, fun e => ?_⟩
    · rw [e, q3] at h1; simp only [nodeRow] at h1; injection h1 with h1; cases h1
    · rw [e, r3] at h1; simp only [nodeRow] at h1; injection h1 with h1; cases h1
  have set' : ∀ (id : Nat) (p : Int → Bool), SetAt h id p → id ≠ (nth L i).sid → id ≠ (nth L P).cid → SetAt h' id p := fun id p hp h1 h2 => by
    obtain ⟨kvs, clock, q1, q2⟩ := hp
    exact ⟨kvs, clock, hf _ _ q1 h1 h2, q2⟩
  have hap := hn.diff.at hi hP hiP
  refine ⟨by simpa using hl, hn.diff, fun k hk => ?_⟩
  have hkA : k < A.length := by omega
  obtain ⟨n1, n2, n3⟩ := hn.node k hk
  have hr := hf _ _ n1 (hrow k hk).1 (hrow k hk).2
  have hsc := hn.diff.2 (nth L k) (nth_mem hk)
  rw [nth_set (by simpa using hkA)]
  by_cases e1 : P = k
  · subst e1
    rw [if_pos rfl]
    unfold Apart at hap
    exact ⟨hr, set' _ _ n2 (by omega) (by omega), hc⟩
  · rw [if_neg e1, nth_set hkA]
    have ha2 := hn.diff.at hk hP (Ne.symm e1)
    by_cases e2 : i = k
    · subst e2
      rw [if_pos rfl]
      unfold Apart at ha2
      exact ⟨hr, hs, set' _ _ n3 (by omega) (by omega)⟩
    · rw [if_neg e2]
      have ha1 := hn.diff.at hk hi (Ne.symm e2)
      unfold Apart at ha1 ha2
      exact ⟨hr, set' _ _ n2 (by omega) (by omega), set' _ _ n3 (by omega) (by omega)⟩

theorem NodesAt.keep {h h' : Hp} {L : List Pl} {A : List An} (hn : NodesAt h L A) (hf : Fr h h') : NodesAt h' L A := ⟨hn.len, hn.diff, fun j hj => (hn.node j hj).fr hf⟩

theorem row_ne {h : Hp} {a b : Nat} {t : TypeId} {es : List (List HV)} {p : Int → Bool} (h1 : h[a]? = some (.row t es)) (h2 : SetAt h b p) : a ≠ b := fun e => by
  obtain ⟨q1, q2, q3, _⟩ := h2
  rw [← e, h1] at q3; injection q3 with q3; cases q3

theorem SetAt.of {h h' : Hp} {id : Nat} {p : Int → Bool} (hs : SetAt h id p) (hf : ∀ o, h[id]? = some o → h'[id]? = some o) : SetAt h' id p := by
  obtain ⟨kvs, clock, q1, q2⟩ := hs
  exact ⟨kvs, clock, hf _ q1, q2⟩

set_option maxHeartbeats 4000000 in
set_option maxRecDepth 8000 in
theorem tree_trim (L : List Pl) (A : List An) (r : HV) (h0 : Hp) (hN : NodesAt h0 L A) (ho : OwnAt h0 r 66 (eps L)) (hL : L.length ≤ 10000) (hup : ∀ j, j < L.length → -1 ≤ (nth A j).up ∧ (nth A j).up < j) :
    CallsH pg 34 [r] h0 (fun _ h' => NodesAt h' L (trimTo A L.length) ∧ h0.length ≤ h'.length ∧ ∀ j o, h0[j]? = some o → (∀ x ∈ L, j ≠ x.sid ∧ j ≠ x.cid) → h'[j]? = some o) := by
  refine CallsH.of_wpN [] 70 fn34 rfl rfl ?_
  refine WP.abs (fun s => s 0 = r) rfl ?_
  rintro s g0
  rcases ho with ⟨rfl, hnil⟩ | ⟨k, rfl, hrow⟩
  · have hL0 : L = [] := by cases L with
      | nil => rfl
      | cons x l => simp [eps] at hnil
    subst hL0
    repeat' (with_reducible first | refine WP.seq ?_ | refine WP.block ?_ | refine seqK_normal ?_ | (apply WP.regionE; (with_unfolding_all (simp +decide (disch := first | decide | omega) only [go_sem, *]; rfl))))
    refine WP.loop (fun s h => s 7 = .int .i64 0 ∧ s 8 = .int .i64 0 ∧ h = h0) (fun _ _ => 0) ⟨by (rfl), by (rfl), rfl⟩ ?_
    clear g0 s
    rintro s h ⟨g7, g8, rfl⟩
    repeat' (with_reducible first | refine WP.seq ?_ | refine WP.exit ?_ | refine seqK_normal ?_ | refine seqK_exit ?_ | refine loopK_exit ?_ | refine blockK_here ?_ | (apply WP.regionE; (with_unfolding_all (simp +decide (disch := first | decide | omega) only [go_sem, *]; rfl))) | (apply WP.condF; (focus (simp +decide (disch := first | decide | omega) only [go_sem, *]; done))) | (apply fnPost_normal; (simp +decide (disch := first | decide | omega) only [go_sem, *]; rfl)))
    exact ⟨hN, Nat.le_refl _, fun j o h _ => h⟩
  rw [eps_length] at g0
  have hAL := hN.len
  repeat' (with_reducible first | refine WP.seq ?_ | refine WP.block ?_ | refine seqK_normal ?_ | (apply WP.regionE; (with_unfolding_all (simp +decide (disch := first | decide | omega) only [go_sem, *]; rfl))))
  refine WP.loop (fun s h => s 6 = .ow k 0 L.length ∧ s 7 = .int .i64 L.length ∧ ∃ i : Nat, s 8 = .int .i64 i ∧ i ≤ L.length ∧ NodesAt h L (trimTo A i) ∧ h0.length ≤ h.length ∧ ∀ j o, h0[j]? = some o → (∀ x ∈ L, j ≠ x.sid ∧ j ≠ x.cid) → h[j]? = some o) (fun s _ => L.length - (s 8).toInt.toNat) ⟨by ((simp +decide (disch := first | decide | omega) only [go_sem, *]; done)), by ((simp +decide (disch := first | decide | omega) only [go_sem, *]; done)), 0, by simp +decide (disch := first | decide | omega) only [go_sem, *]; rfl, by omega, hN, Nat.le_refl _, fun j o h _ => h⟩ ?_
  clear g0 s
  rintro s h ⟨g6, g7, i, g8, hi, hNi, hlen, hfr⟩
  have hrowk : h[k]? = some (.row 66 (eps L)) := hfr _ _ hrow fun x hx => by
    obtain ⟨j, hj, rfl⟩ := List.getElem_of_mem hx
    obtain ⟨_, ⟨q1, q2, q3, _⟩, ⟨r1, r2, r3, _⟩⟩ := hN.node j hj
    rw [nth_eq hj] at q3 r3
    exact ⟨fun e => by (rw [← e, hrow] at q3; injection q3 with q3; cases q3), fun e => by (rw [← e, hrow] at r3; injection r3 with r3; cases r3)⟩
  by_cases hlt : i < L.length
  · obtain ⟨hn1, hn2, hn3⟩ := hNi.node i hlt
    unfold nodeRow at hn1
    obtain ⟨u1, u2, u3⟩ := trimTo_up A i i (by omega)
    have hupi := hup i hlt
    rw [u1] at hn1
    by_cases hneg : (nth A i).up < 0
    · have huv : upV L (nth A i).up = .nul (.pointer none) := if_pos hneg
      rw [huv] at hn1
      repeat' (with_reducible first | refine WP.seq ?_ | refine WP.skip ?_ | refine WP.block ?_ | refine WP.exit ?_ | refine seqK_normal ?_ | refine seqK_exit ?_ | refine loopK_exit ?_ | refine blockK_here ?_ | (apply WP.regionE; (with_unfolding_all (simp +decide (disch := first | decide | omega) only [go_sem, *]; rfl))) | (apply WP.condT; (focus (simp +decide (disch := first | decide | omega) only [go_sem, *]; done))) | (apply WP.condB; (simp +decide (disch := first | decide | omega) only [go_sem, *]; rfl); all_goals (intro hb; (first | rw [dlt_t] at hb | rw [dlt_f] at hb | rw [dle_t] at hb | rw [dle_f] at hb | rw [Bool.not_eq_true'] at hb | rw [Bool.not_eq_false'] at hb | skip))) | (apply fnPost_normal; (simp +decide (disch := first | decide | omega) only [go_sem, *]; rfl)))
      · refine loopK_normal ⟨by ((simp +decide (disch := first | decide | omega) only [go_sem, *]; done)), by ((simp +decide (disch := first | decide | omega) only [go_sem, *]; done)), i + 1, by simp +decide (disch := first | decide | omega) only [go_sem, *]; rfl, by omega, ?_, hlen, hfr⟩ (by simp +decide (disch := first | decide | omega) only [go_sem, *]; omega)
        rw [trimTo, trimStep, u1, if_pos hneg]
        exact hNi
      · omega
    · have huv : upV L (nth A i).up = .ep (nth L (nth A i).up.toNat).id 0 0 := if_neg hneg
      rw [huv] at hn1
      obtain ⟨P, hP⟩ : ∃ P, (nth A i).up.toNat = P := ⟨_, rfl⟩
      have hPi : P < i := by omega
      have hPL : P < L.length := by omega
      rw [hP] at hn1
      obtain ⟨hp1, hp2, hp3⟩ := hNi.node P hPL
      unfold nodeRow at hp1
      obtain ⟨kvs, clock, hk, hR⟩ := hn2.rngD
      have hit := hn2.lt
      have hap := hNi.diff.at hlt hPL (by omega)
      unfold Apart at hap
      have hne1 := row_ne hn1 hn2
      have hne2 := row_ne hp1 hn2
      repeat' (with_reducible first | refine WP.seq ?_ | refine WP.skip ?_ | refine WP.block ?_ | refine WP.exit ?_ | refine seqK_normal ?_ | refine seqK_exit ?_ | refine loopK_exit ?_ | refine blockK_here ?_ | (apply WP.regionE; (with_unfolding_all (simp +decide (disch := first | decide | omega) only [go_sem, *]; rfl))) | (apply WP.condF; (focus (simp +decide (disch := first | decide | omega) only [go_sem, *]; done))) | (apply WP.condB; (simp +decide (disch := first | decide | omega) only [go_sem, *]; rfl); all_goals (intro hb; (first | rw [dlt_t] at hb | rw [dlt_f] at hb | rw [dle_t] at hb | rw [dle_f] at hb | rw [Bool.not_eq_true'] at hb | rw [Bool.not_eq_false'] at hb | skip))) | (apply fnPost_normal; (simp +decide (disch := first | decide | omega) only [go_sem, *]; rfl)))
      refine WP.loop (fun s' hh => s' 3 = .ep (nth L i).id 0 0 ∧ s' 6 = .ow k 0 L.length ∧ s' 7 = .int .i64 L.length ∧ s' 8 = .int .i64 i ∧ s' 21 = .it h.length ∧ hh.length = h.length + 1 ∧ ∃ p seen, RngSD hh h.length (nth L i).sid (nth (trimTo A i) i).st p seen ∧ (∀ t, p t = ((nth (trimTo A i) i).st t && (((nth (trimTo A i) P).st t && !(nth (trimTo A i) P).ch t) || !seen t))) ∧ ∀ j o, h[j]? = some o → j ≠ (nth L i).sid → hh[j]? = some o) (fun _ hh => leftD hh h.length)
        ⟨by (rfl), by ((simp +decide (disch := first | decide | omega) only [go_sem, *]; done)), by ((simp +decide (disch := first | decide | omega) only [go_sem, *]; done)), by ((simp +decide (disch := first | decide | omega) only [go_sem, *]; done)), by (rfl), by simp, _, _, hR, fun t => by simp, fun j o hj _ => by rw [List.getElem?_append_left (List.getElem?_eq_some_iff.1 hj).1]; exact hj⟩ ?_
      clear g6 g7 hR hk
      rintro s' hh ⟨g3, g6, g7, g8', g21, hlen1', p, seen, hR, hp, hfr1⟩
      have hlen1 : hh.length ≤ h.length + 1 ∧ h.length + 1 ≤ hh.length := by omega
      clear hlen1'
      repeat' (with_reducible refine WP.seq ?_)
      refine WP.region ?_
      refine opsT.nextSD (it := h.length) (by simp +decide (disch := first | decide | omega) only [go_sem, *]) hR (by omega) (fun hall => ?_) (fun t hh' ht0 ht hR' hent hltD hlen' hfr' => ?_)
      · have hpf : ∀ t, p t = ((nth (trimTo A i) i).st t && ((nth (trimTo A i) P).st t && !(nth (trimTo A i) P).ch t)) := fun t => by
          rw [hp t]
          cases hst : (nth (trimTo A i) i).st t with
          | false => rfl
          | true => simp [hall t hst]
        have hn1h := hfr1 _ _ hn1 hne1
        have hp1h := hfr1 _ _ hp1 hne2
        have hS : SetAt hh (nth L i).sid p := hR.map
        obtain ⟨kvs2, clock2, hk2, hR2⟩ := hS.rng
        have hC : SetAt hh (nth L P).cid (nth (trimTo A i) P).ch := hp3.of fun o ho => hfr1 _ o ho (by omega)
        have hit2 := hS.lt
        have hct := hC.lt
        repeat' (with_reducible first | refine WP.seq ?_ | refine WP.block ?_ | refine WP.exit ?_ | refine seqK_normal ?_ | refine seqK_exit ?_ | refine loopK_exit ?_ | refine blockK_here ?_ | (apply WP.regionE; (with_unfolding_all (simp +decide (disch := first | decide | omega) only [go_sem, *]; rfl))) | (apply opsT.fin; (with_unfolding_all (simp +decide (disch := first | decide | omega) only [go_sem, *]; rfl))) | (apply WP.condF; (focus (simp +decide (disch := first | decide | omega) only [go_sem, *]; done))))
        refine WP.loop (fun s' h3 => s' 3 = .ep (nth L i).id 0 0 ∧ s' 6 = .ow k 0 L.length ∧ s' 7 = .int .i64 L.length ∧ s' 8 = .int .i64 i ∧ s' 56 = .it hh.length ∧ h3.length = hh.length + 1 ∧ ∃ seen, RngS h3 hh.length (nth L i).sid p seen ∧ SetAt h3 (nth L P).cid (fun t => (nth (trimTo A i) P).ch t || seen t) ∧ (∀ t, seen t = true → p t = true) ∧ ∀ j o, hh[j]? = some o → j ≠ (nth L P).cid → h3[j]? = some o) (fun _ h3 => leftN h3 hh.length)
          ⟨by ((simp +decide (disch := first | decide | omega) only [go_sem, *]; done)), by ((simp +decide (disch := first | decide | omega) only [go_sem, *]; done)), by ((simp +decide (disch := first | decide | omega) only [go_sem, *]; done)), by ((simp +decide (disch := first | decide | omega) only [go_sem, *]; done)), by (rfl), by simp, _, hR2, (hC.app _).congr fun t => by simp, fun t h => by (cases h), fun j o hj _ => by rw [List.getElem?_append_left (List.getElem?_eq_some_iff.1 hj).1]; exact hj⟩ ?_
        clear g3 g6 g7 g21 hR2 hk2
        rintro s'' h3 ⟨g3, g6, g7, g8'', g56, hlen3', seen2, hR3, hC3, hsub3, hfr3⟩
        have hlen3 : h3.length ≤ hh.length + 1 ∧ hh.length + 1 ≤ h3.length := by omega
        clear hlen3'
        repeat' (with_reducible refine WP.seq ?_)
        refine WP.region ?_
        refine opsT.nextS (it := hh.length) (by simp +decide (disch := first | decide | omega) only [go_sem, *]) hR3 (by omega) (fun hall2 => ?_) (fun t h4 ht hns hR4 hent4 hlt4 hlen4 hfr4 => ?_)
        · repeat' (with_reducible first | refine WP.seq ?_ | refine WP.exit ?_ | refine seqK_normal ?_ | refine seqK_exit ?_ | refine loopK_exit ?_ | refine blockK_normal ?_ | refine blockK_here ?_ | (apply WP.regionE; (with_unfolding_all (simp +decide (disch := first | decide | omega) only [go_sem, *]; rfl))) | (apply opsT.fin; (with_unfolding_all (simp +decide (disch := first | decide | omega) only [go_sem, *]; rfl))) | (apply WP.condF; (focus (simp +decide (disch := first | decide | omega) only [go_sem, *]; done))))
          refine loopK_normal ⟨by ((simp +decide (disch := first | decide | omega) only [go_sem, *]; done)), by ((simp +decide (disch := first | decide | omega) only [go_sem, *]; done)), i + 1, by simp +decide (disch := first | decide | omega) only [go_sem, *]; rfl, by omega, ?_, by omega, ?_⟩ (by simp +decide (disch := first | decide | omega) only [go_sem, *]; omega)
          · rw [trimTo]
            unfold trimStep
            rw [u1, if_neg hneg, hP]
            refine hNi.trim hlt hPL (by omega) ?_ ?_ ?_
            · exact (show SetAt h3 (nth L i).sid p from hR3.map).congr hpf
            · refine hC3.congr fun t => ?_
              have e : seen2 t = p t := Bool.eq_iff_iff.2 ⟨hsub3 t, hall2 t⟩
              rw [e, hpf t]
            · exact fun j o hj h1 h2 => hfr3 j o (hfr1 j o hj h1) h2
          · intro j o hj hx
            exact hfr3 j o (hfr1 j o (hfr j o hj hx) (hx _ (nth_mem hlt)).1) (hx _ (nth_mem hPL)).2
        · have hf4 : ∀ j o, hh[j]? = some o → j ≠ (nth L P).cid → h4[j]? = some o := fun j o hj hne => by
            rw [hfr4 j (by have := (List.getElem?_eq_some_iff.1 hj).1; omega)]; exact hfr3 j o hj hne
          have hn14 := hf4 _ _ hn1h (row_ne hn1h hC)
          have hp14 := hf4 _ _ hp1h (row_ne hp1h hC)
          obtain ⟨oc, hput, hput2⟩ := (hC3.keep (h' := h4) (hfr4 _ (by omega))).put t
          have hlt5 := hC3.lt
          clear hfr4
          have hlen4' : h4.length ≤ h3.length ∧ h3.length ≤ h4.length := by omega
          clear hlen4
          repeat' (with_reducible first | refine WP.seq ?_ | refine WP.skip ?_ | refine WP.block ?_ | refine seqK_normal ?_ | refine blockK_normal ?_ | (apply WP.regionE; (with_unfolding_all (simp +decide (disch := first | decide | omega) only [go_sem, *]; rfl))) | (apply opsT.fin; (with_unfolding_all (simp +decide (disch := first | decide | omega) only [go_sem, *]; rfl))) | (apply WP.condT; (focus (simp +decide (disch := first | decide | omega) only [go_sem, *]; done))))
          have hkp := hR4.keep (h' := h4.set (nth L P).cid oc) (List.getElem?_set_ne (by omega)) (List.getElem?_set_ne (by omega))
          refine loopK_normal ⟨by ((simp +decide (disch := first | decide | omega) only [go_sem, *]; done)), by ((simp +decide (disch := first | decide | omega) only [go_sem, *]; done)), by ((simp +decide (disch := first | decide | omega) only [go_sem, *]; done)), by ((simp +decide (disch := first | decide | omega) only [go_sem, *]; done)), by ((simp +decide (disch := first | decide | omega) only [go_sem, *]; done)), by simp; omega, fun u => seen2 u || decide (u = t), ?_, ?_, fun u hu => ?_, fun j o hj hne => ?_⟩ ?_
          · exact hkp.1
          · refine (hput2 _ (List.getElem?_set_self (by omega))).congr fun u => ?_
            simp [Bool.or_assoc]
          · simp only [Bool.or_eq_true, decide_eq_true_eq] at hu
            rcases hu with hu | rfl
            · exact hsub3 u hu
            · exact ht
          · rw [List.getElem?_set_ne (by omega)]; exact hf4 j o hj hne
          · have := hkp.2
            omega
      · have hf2 : ∀ j o, h[j]? = some o → j ≠ (nth L i).sid → hh'[j]? = some o := fun j o hj hne => by
          rw [hfr' j (by have := (List.getElem?_eq_some_iff.1 hj).1; omega)]; exact hfr1 j o hj hne
        have hn1' := hf2 _ _ hn1 hne1
        have hp1' := hf2 _ _ hp1 hne2
        have hl1 := (hp2.of fun o ho => hf2 _ o ho (by omega)).look t
        have hl2 := (hp3.of fun o ho => hf2 _ o ho (by omega)).look t
        obtain ⟨od, hdel, hdel2⟩ := hR'.del (x := t) (by simp) ma68'
        clear hfr'
        have hlen'' : hh'.length ≤ hh.length ∧ hh.length ≤ hh'.length := by omega
        clear hlen'
        have hsl := (show SetAt hh' (nth L i).sid p from hR'.map).lt
        have hdl := hdel2 (hh'.set (nth L i).sid od) (List.getElem?_set_self hsl) (List.getElem?_set_ne (by omega))
        have hout : ((nth (trimTo A i) P).st t && !(nth (trimTo A i) P).ch t) = false → ∀ u, (p u && !decide (u = t)) = ((nth (trimTo A i) i).st u && (((nth (trimTo A i) P).st u && !(nth (trimTo A i) P).ch u) || !(seen u || decide (u = t)))) := fun hk u => by
          rw [hp u]
          by_cases e : u = t
          · subst e
            simp only [hk, decide_true, Bool.not_true, Bool.and_false, Bool.or_true, Bool.false_or]
          · simp [e]
        have hin : ((nth (trimTo A i) P).st t && !(nth (trimTo A i) P).ch t) = true → ∀ u, p u = ((nth (trimTo A i) i).st u && (((nth (trimTo A i) P).st u && !(nth (trimTo A i) P).ch u) || !(seen u || decide (u = t)))) := fun hk u => by
          rw [hp u]
          by_cases e : u = t
          · subst e
            rw [hk]; simp
          · simp [e]
        have hfo : ∀ j o, h[j]? = some o → j ≠ (nth L i).sid → (hh'.set (nth L i).sid od)[j]? = some o := fun j o hj hne => by
          rw [List.getElem?_set_ne (by omega)]; exact hf2 j o hj hne
        repeat' (with_reducible first | refine WP.seq ?_ | refine WP.skip ?_ | refine WP.block ?_ | refine seqK_normal ?_ | refine blockK_normal ?_ | (apply WP.regionE; (with_unfolding_all (simp +decide (disch := first | decide | omega) only [go_sem, *]; rfl))) | (apply opsT.fin; (with_unfolding_all (simp +decide (disch := first | decide | omega) only [go_sem, *]; rfl))) | (apply WP.condT; (focus (simp +decide (disch := first | decide | omega) only [go_sem, *]; done))) | (apply WP.condB; (simp +decide (disch := first | decide | omega) only [go_sem, *]; rfl); all_goals (intro hb; (first | rw [dlt_t] at hb | rw [dlt_f] at hb | rw [dle_t] at hb | rw [dle_f] at hb | rw [Bool.not_eq_true'] at hb | rw [Bool.not_eq_false'] at hb | skip))) | (apply WP.guardB 0; with_unfolding_all rfl; (with_unfolding_all (simp +decide (disch := first | decide | omega) only [go_sem, *]; rfl)); (simp +decide (disch := first | decide | omega) only [go_sem, *]; rfl); all_goals (intro hb; (fail_if_success (exact absurd hb (by decide))); (first | rw [dlt_t] at hb | rw [dlt_f] at hb | rw [dle_t] at hb | rw [dle_f] at hb | rw [Bool.not_eq_true'] at hb | rw [Bool.not_eq_false'] at hb | skip))))
        · refine loopK_normal ⟨by ((simp +decide (disch := first | decide | omega) only [go_sem, *]; done)), by ((simp +decide (disch := first | decide | omega) only [go_sem, *]; done)), by ((simp +decide (disch := first | decide | omega) only [go_sem, *]; done)), by ((simp +decide (disch := first | decide | omega) only [go_sem, *]; done)), by ((simp +decide (disch := first | decide | omega) only [go_sem, *]; done)), by simp; omega, _, _, hdl.1, hout ?_, hfo⟩ ?_
          · rw [hb]; rfl
          · have := hdl.2
            omega
        · refine loopK_normal ⟨by ((simp +decide (disch := first | decide | omega) only [go_sem, *]; done)), by ((simp +decide (disch := first | decide | omega) only [go_sem, *]; done)), by ((simp +decide (disch := first | decide | omega) only [go_sem, *]; done)), by ((simp +decide (disch := first | decide | omega) only [go_sem, *]; done)), by ((simp +decide (disch := first | decide | omega) only [go_sem, *]; done)), by simp; omega, _, _, hdl.1, hout ?_, hfo⟩ ?_
          · rw [hb]; simp
          · have := hdl.2
            omega
        · rename_i hb1
          refine loopK_normal ⟨by ((simp +decide (disch := first | decide | omega) only [go_sem, *]; done)), by ((simp +decide (disch := first | decide | omega) only [go_sem, *]; done)), by ((simp +decide (disch := first | decide | omega) only [go_sem, *]; done)), by ((simp +decide (disch := first | decide | omega) only [go_sem, *]; done)), by ((simp +decide (disch := first | decide | omega) only [go_sem, *]; done)), by omega, _, _, hR', hin ?_, hf2⟩ (by omega)
          rw [hb1, hb]; rfl
      · omega
  · repeat' (with_reducible first | refine WP.seq ?_ | refine WP.skip ?_ | refine WP.block ?_ | refine WP.exit ?_ | refine seqK_normal ?_ | refine seqK_exit ?_ | refine loopK_exit ?_ | refine blockK_here ?_ | (apply WP.regionE; (with_unfolding_all (simp +decide (disch := first | decide | omega) only [go_sem, *]; rfl))) | (apply WP.condB; (simp +decide (disch := first | decide | omega) only [go_sem, *]; rfl); all_goals (intro hb; (first | rw [dlt_t] at hb | rw [dlt_f] at hb | rw [dle_t] at hb | rw [dle_f] at hb | rw [Bool.not_eq_true'] at hb | rw [Bool.not_eq_false'] at hb | skip))) | (apply fnPost_normal; (simp +decide (disch := first | decide | omega) only [go_sem, *]; rfl)))
    · omega
    · have : i = L.length := by omega
      subst this
      exact ⟨hNi, hlen, hfr⟩

end Go.Proofs.Ytonhbeapffiibaa

