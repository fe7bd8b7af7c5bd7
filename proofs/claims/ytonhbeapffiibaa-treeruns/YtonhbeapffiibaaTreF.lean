/-
  Chapter 16: package tree: flash.
-/
import Derived.Test.YtonhbeapffiibaaTreE
import Derived.Test.YtonhbeapffiibaaHlM4
namespace Go.Proofs.Ytonhbeapffiibaa
open Go.HL

/-- How many states a set has. -/
def cnt (b : Bu) (p : Int → Bool) : Nat := (elems b p).length

def inB (b : Bu) (p : Int → Bool) : Prop := ∀ x, p x = true → 0 ≤ x ∧ x < b.next.length

theorem SetAt.cnt {b : Bu} {h : Hp} {id : Nat} {p : Int → Bool} (hs : SetAt h id p) (hp : inB b p) : ∃ kvs clock, h[id]? = some (.map kvs clock) ∧ kvs.length = cnt b p := by
  have hlen := hs.len (elems_nodup b p) (fun x => (mem_elems hp).symm)
  obtain ⟨kvs, clock, hk, h2⟩ := hs
  refine ⟨kvs, clock, hk, ?_⟩
  simp only [lenH, un68, hk] at hlen
  injection hlen with hlen; injection hlen with _ hlen
  unfold Go.Proofs.Ytonhbeapffiibaa.cnt
  omega

def goneAt (b : Bu) (A : List An) (i : Nat) : Bool :=
  (decide (0 ≤ (nth A i).up) && ((nth A (nth A i).up.toNat).gone || decide (cnt b (nth A (nth A i).up.toNat).ch = cnt b (nth A (nth A i).up.toNat).st))) || decide (cnt b (nth A i).st = 0)

def flashStep (b : Bu) (A : List An) (i : Nat) : List An := A.set i { nth A i with gone := goneAt b A i }
def flashTo (b : Bu) (A : List An) : Nat → List An
  | 0 => A
  | i + 1 => flashStep b (flashTo b A i) i
def goodAt (b : Bu) (A : List An) (i : Nat) : Bool := !goneAt b A i && decide (cnt b (nth A i).ch = cnt b (nth A i).st)
def goodsTo (b : Bu) (A : List An) : Nat → List Int
  | 0 => []
  | i + 1 => goodsTo b A i ++ (if goodAt b (flashTo b A i) i then [(nth A i).name] else [])

theorem flashTo_length (b : Bu) (A : List An) : ∀ i, (flashTo b A i).length = A.length
  | 0 => rfl
  | i + 1 => by rw [flashTo, flashStep, List.length_set, flashTo_length b A i]

theorem flashTo_same (b : Bu) (A : List An) : ∀ (i j : Nat), j < A.length → (nth (flashTo b A i) j).up = (nth A j).up ∧ (nth (flashTo b A i) j).name = (nth A j).name ∧ (nth (flashTo b A i) j).st = (nth A j).st ∧ (nth (flashTo b A i) j).ch = (nth A j).ch
  | 0, j, _ => ⟨rfl, rfl, rfl, rfl⟩
  | i + 1, j, hj => by
    have h := flashTo_same b A i j hj
    rw [flashTo, flashStep, nth_set (by rw [flashTo_length]; exact hj)]
    split
    · rename_i e; subst e; exact h
    · exact h

theorem goodsTo_len (b : Bu) (A : List An) : ∀ i, (goodsTo b A i).length ≤ i
  | 0 => by simp [goodsTo]
  | i + 1 => by
    have := goodsTo_len b A i
    rw [goodsTo, List.length_append]
    split <;> simp <;> omega

/-- A node's mark is written anew. -/
theorem NodesAt.mark {h : Hp} {L : List Pl} {A : List An} (hn : NodesAt h L A) {i : Nat} (hi : i < L.length) (g : Bool) :
    NodesAt (h.set (nth L i).id (nodeRow (nth A i).name (upV L (nth A i).up) (nth L i).sid (nth L i).cid g)) L (A.set i { nth A i with gone := g }) := by
  have hl := hn.len
  have hrow := (hn.node i hi).1
  have hlt := (List.getElem?_eq_some_iff.1 hrow).1
  have hset : ∀ id p, SetAt h id p → SetAt (h.set (nth L i).id (nodeRow (nth A i).name (upV L (nth A i).up) (nth L i).sid (nth L i).cid g)) id p := fun id p hp =>
    hp.keep (List.getElem?_set_ne (by have := row_ne (t := 70) hrow hp; omega))
  refine ⟨by simpa using hl, hn.diff, fun k hk => ?_⟩
  obtain ⟨n1, n2, n3⟩ := hn.node k hk
  rw [nth_set (by omega)]
  by_cases e : i = k
  · subst e
    rw [if_pos rfl]
    exact ⟨List.getElem?_set_self hlt, hset _ _ n2, hset _ _ n3⟩
  · rw [if_neg e]
    have hap := hn.diff.at hi hk e
    refine ⟨?_, hset _ _ n2, hset _ _ n3⟩
    rw [List.getElem?_set_ne hap.1]; exact n1

theorem own_new {k : Nat} {h : Hp} {x : HV} {t : TypeId} {es : List (List HV)} (ho : OwnAt h x t es) (hk : ∀ id n, x = .ow id 0 n → k ≤ id) : OwnAt (newOf k h) x t es := by
  rcases ho with ho | ⟨id, h1, h2⟩
  · exact .inl ho
  · refine .inr ⟨id, h1, ?_⟩
    have := hk _ _ h1
    simp only [newOf, List.getElem?_mapIdx, h2, Option.map_some]
    rw [if_neg (by omega)]

theorem NodesAt.old {k : Nat} {h : Hp} {L : List Pl} {A : List An} (hn : NodesAt h L A) (hk : ∀ x ∈ L, x.id < k ∧ x.sid < k ∧ x.cid < k) : NodesAt (oldOf k h) L A := by
  refine ⟨hn.len, hn.diff, fun j hj => ?_⟩
  obtain ⟨n1, n2, n3⟩ := hn.node j hj
  have := hk _ (nth_mem hj)
  exact ⟨by rw [oldOf_at this.1]; exact n1, n2.keep (oldOf_at this.2.1), n3.keep (oldOf_at this.2.2)⟩

theorem NodesAt.lt {h : Hp} {L : List Pl} {A : List An} (hn : NodesAt h L A) : ∀ x ∈ L, x.id < h.length ∧ x.sid < h.length ∧ x.cid < h.length := fun x hx => by
  obtain ⟨j, hj, rfl⟩ := List.getElem_of_mem hx
  have := (hn.node j hj).lt
  rwa [nth_eq hj] at this

theorem not_ids {k : Nat} {h : Hp} {x : HV} {t : TypeId} {es : List (List HV)} (ho : OwnAt h x t es) (hge : ∀ id n, x = .ow id 0 n → k ≤ id) {j : Nat} (hj : j < k) : ¬ j ∈ idsOf x := by
  rcases ho with ⟨e, _⟩ | ⟨id, e, _⟩
  · subst e; simp [idsOf]
  · have := hge _ _ e
    subst e
    simp [idsOf]; omega

theorem goodsTo_le (b : Bu) (A : List An) (n : Nat) (hn : n ≤ 10000) : (goodsTo b A n).length < 4611686018427387904 := by
  have := goodsTo_len b A n; omega

theorem goneAt_neg {b : Bu} {A : List An} {i : Nat} (h : (nth A i).up < 0) : goneAt b A i = decide (cnt b (nth A i).st = 0) := by
  have : ¬ 0 ≤ (nth A i).up := by omega
  simp [goneAt, this]
theorem goneAt_pos {b : Bu} {A : List An} {i P : Nat} (h : ¬ (nth A i).up < 0) (hP : (nth A i).up.toNat = P) : goneAt b A i = (((nth A P).gone || decide (cnt b (nth A P).ch = cnt b (nth A P).st)) || decide (cnt b (nth A i).st = 0)) := by
  have : 0 ≤ (nth A i).up := by omega
  simp [goneAt, this, hP]
theorem dec_cast {m n : Nat} : decide ((m : Int) = (n : Int)) = decide (m = n) := by rw [decide_eq_decide]; omega
theorem dec_cast0 {m : Nat} : decide ((m : Int) = 0) = decide (m = 0) := by rw [decide_eq_decide]; omega

/-- What is left to show at flash's end. -/
theorem flash_end {L : List Pl} {A : List An} {h0 h2 : Hp} {x : HV} {G : List Int} (hl : h0.length ≤ h2.length) (ho : OwnAt h2 x 3 (ints G)) (hge : ∀ id n, x = .ow id 0 n → h0.length ≤ id) (hN0 : ∀ x ∈ L, x.id < h0.length ∧ x.sid < h0.length ∧ x.cid < h0.length) (hN : NodesAt h2 L A)
    (hf : ∀ j o, h0[j]? = some o → (∀ x ∈ L, j ≠ x.id) → h2[j]? = some o) :
    ∃ n y, rdV (newOf h0.length h2) n x = some y ∧ y.dim = .sl false (ints G) ∧ NodesAt (oldOf h0.length h2) L A ∧ h0.length ≤ (oldOf h0.length h2).length ∧ ∀ j o, h0[j]? = some o → (∀ x ∈ L, j ≠ x.id) → (oldOf h0.length h2)[j]? = some o := by
  obtain ⟨fl, hrd⟩ := (own_new ho hge).read (ints_free _)
  refine ⟨1, _, hrd, by simp only [HV.dim, dim_ints], hN.old hN0, by simpa [oldOf] using hl, fun j o hj hx => ?_⟩
  rw [oldOf_at (List.getElem?_eq_some_iff.1 hj).1]
  exact hf j o hj hx

theorem joinR {C : Cx} {c : Code} {Q : Exit → Env → Hp → Prop} {e : Env} {h : Hp} (J : Env → Hp → Prop) (hc : WP pg C c (fun ex e h => ex = .normal ∧ J e h) e h) (hq : ∀ e h, J e h → Q .normal e h) : WP pg C c Q e h :=
  hc.mono fun ex e h hx => by obtain ⟨rfl, hx⟩ := hx; exact hq e h hx

theorem opE_store {own : Bool} {ρ : Operand → HV} {h : Hp} {nid : Nat} {t : TypeId} {a x : Operand} : opE pg own ρ h nid (.store t a x) = storeH pg.P h t (ρ a) (ρ x) := rfl

set_option maxHeartbeats 8000000 in
set_option maxRecDepth 8000 in
theorem tree_flash (b : Bu) (L : List Pl) (A : List An) (r : HV) (h0 : Hp) (hN : NodesAt h0 L A) (ho : OwnAt h0 r 66 (eps L)) (hL : L.length ≤ 10000) (hup : ∀ j, j < L.length → -1 ≤ (nth A j).up ∧ (nth A j).up < j) (hbnd : ∀ j, j < L.length → inB b (nth A j).st ∧ inB b (nth A j).ch) :
    CallsH pg 35 [r] h0 (fun r' h' => r' = .sl false (ints ((goodsTo b A L.length).mergeSort fun x y => decide (x ≤ y))) ∧ NodesAt h' L (flashTo b A L.length) ∧ h0.length ≤ h'.length ∧ ∀ j o, h0[j]? = some o → (∀ x ∈ L, j ≠ x.id) → h'[j]? = some o) := by
  refine CallsH.of_wpF [] 86 fn35 rfl rfl ?_
  refine WP.abs (fun s => s 0 = r) rfl ?_
  rintro s g0
  have hAL := hN.len.symm
  rcases ho with ⟨rfl, hnil⟩ | ⟨k, rfl, hrow⟩
  · have hL0 : L = [] := by cases L with
      | nil => rfl
      | cons x l => simp [eps] at hnil
    subst hL0
    repeat' (with_reducible first | refine WP.seq ?_ | refine WP.block ?_ | refine seqK_normal ?_ | (apply WP.regionE; (with_unfolding_all (simp +decide (disch := first | decide | omega) only [go_sem, *]; rfl))))
    refine WP.loop (fun s h => s 7 = .int .i64 0 ∧ s 8 = .int .i64 0 ∧ s 3 = .sl true [] ∧ h = h0) (fun _ _ => 0) ⟨by (rfl), by (rfl), by (rfl), rfl⟩ ?_
    clear g0 s
    rintro s h ⟨g7, g8, g3, rfl⟩
    have hc := CallsH.sortOwn (h := h) sorts sorts0 sz3 (x := .sl true []) (l := []) (.inl ⟨rfl, rfl⟩) (by simp)
    repeat' (with_reducible first | refine WP.seq ?_ | refine WP.exit ?_ | refine seqK_normal ?_ | refine seqK_exit ?_ | refine loopK_exit ?_ | refine blockK_here ?_ | (apply WP.regionE; (with_unfolding_all (simp +decide (disch := first | decide | omega) only [go_sem, *]; rfl))) | (apply WP.regionX; with_unfolding_all rfl; (with_unfolding_all (simp +decide (disch := first | decide | omega) only [go_sem, *]; rfl))) | (apply opsT.call; (with_unfolding_all (simp +decide (disch := first | decide | omega) only [go_sem, *]; rfl)); (focus (simp +decide (disch := first | decide | omega) only [go_sem, *]; done)); (with_unfolding_all (simp +decide (disch := first | decide | omega) only [go_sem, *]; rfl))) | (apply WP.condF; (focus (simp +decide (disch := first | decide | omega) only [go_sem, *]; done))))
    refine hc.mono ?_
    rintro r h2 ⟨rfl, ho2, hl2, hf2⟩
    clear hc
    repeat' (with_reducible first | refine WP.seq ?_ | refine WP.ret ?_ | refine seqK_normal ?_ | (apply WP.regionE; (with_unfolding_all (simp +decide (disch := first | decide | omega) only [go_sem, *]; rfl))) | (apply opsT.fin; (with_unfolding_all (simp +decide (disch := first | decide | omega) only [go_sem, *]; rfl))))
    refine fnPost_ret (by simp +decide (disch := first | decide | omega) only [go_sem, *]; rfl) ?_
    have hfin := flash_end (h0 := h) (h2 := h2) (x := .sl true []) (A := A) (L := []) (by omega) (G := []) (by simpa using ho2) (fun id n e => by cases e) (fun x hx => by simp at hx) ⟨hN.len, hN.diff, fun j hj => by simp at hj⟩ (fun j o hj _ => by rw [hf2 j (by simp [idsOf])]; exact hj)
    simpa [goodsTo, flashTo] using hfin
  rw [eps_length] at g0
  have hN0 := hN.lt
  repeat' (with_reducible first | refine WP.seq ?_ | refine WP.block ?_ | refine seqK_normal ?_ | (apply WP.regionE; (with_unfolding_all (simp +decide (disch := first | decide | omega) only [go_sem, *]; rfl))))
  refine WP.loop (fun s h => s 6 = .ow k 0 L.length ∧ s 7 = .int .i64 L.length ∧ ∃ i : Nat, s 8 = .int .i64 i ∧ i ≤ L.length ∧ NodesAt h L (flashTo b A i) ∧ h0.length ≤ h.length ∧ OwnAt h (s 3) 3 (ints (goodsTo b A i)) ∧ (∀ id n, s 3 = .ow id 0 n → h0.length ≤ id) ∧ ∀ j o, h0[j]? = some o → (∀ x ∈ L, j ≠ x.id) → h[j]? = some o) (fun s _ => L.length - (s 8).toInt.toNat)
    ⟨by (rfl), by (rfl), 0, by simp +decide (disch := first | decide | omega) only [go_sem, *]; rfl, by omega, hN, Nat.le_refl _, .inl ⟨by (rfl), rfl⟩, fun id n e => by simp [upd] at e, fun j o h _ => h⟩ ?_
  clear g0 s
  rintro s h ⟨g6, g7, i, g8, hi, hNi, hlen, hog, hge, hfr⟩
  have hrowk : h[k]? = some (.row 66 (eps L)) := hfr _ _ hrow fun x hx => by
    obtain ⟨j, hj, rfl⟩ := List.getElem_of_mem hx
    obtain ⟨q1, _, _⟩ := hN.node j hj
    rw [nth_eq hj] at q1
    exact fun e => by (rw [← e, hrow] at q1; simp only [nodeRow] at q1; injection q1 with q1; cases q1)
  by_cases hlt : i < L.length
  · obtain ⟨hn1, hn2, hn3⟩ := hNi.node i hlt
    unfold nodeRow at hn1
    obtain ⟨u1, u2, u3, u4⟩ := flashTo_same b A i i (by omega)
    have hupi := hup i hlt
    rw [u1, u2] at hn1
    have hinI := hbnd i hlt
    rw [← u3, ← u4] at hinI
    obtain ⟨kv1, ck1, hk1, hl1⟩ := hn2.cnt hinI.1
    obtain ⟨kv2, ck2, hk2, hl2⟩ := hn3.cnt hinI.2
    obtain ⟨g, hg⟩ : ∃ g, g = goneAt b (flashTo b A i) i := ⟨_, rfl⟩
    have hlive : liveB h (nth L i).id = true := by simp [liveB, hn1, HO.live]
    repeat' (with_reducible first | refine WP.seq ?_ | refine WP.skip ?_ | refine WP.block ?_ | refine WP.exit ?_ | refine seqK_normal ?_ | refine seqK_exit ?_ | refine loopK_exit ?_ | refine blockK_here ?_ | (apply WP.regionE; (with_unfolding_all (simp +decide (disch := first | decide | omega) only [go_sem, *]; rfl))) | (apply WP.condB; (simp +decide (disch := first | decide | omega) only [go_sem, *]; rfl); all_goals (intro hb; (first | rw [dlt_t] at hb | rw [dlt_f] at hb | rw [dle_t] at hb | rw [dle_f] at hb | rw [Bool.not_eq_true'] at hb | rw [Bool.not_eq_false'] at hb | skip))))
    · refine joinR (fun s' h' => s' 3 = s 3 ∧ s' 5 = .ep (nth L i).id 0 0 ∧ s' 6 = .ow k 0 L.length ∧ s' 7 = .int .i64 L.length ∧ s' 8 = .int .i64 i ∧ h' = h.set (nth L i).id (nodeRow (nth A i).name (upV L (nth A i).up) (nth L i).sid (nth L i).cid g)) ?_ ?_
      · by_cases hneg : (nth A i).up < 0
        · have huv : upV L (nth A i).up = .nul (.pointer none) := if_pos hneg
          rw [huv] at hn1 ⊢
          refine WP.regionVX2 44 [(nth L i).id] mixed (by with_unfolding_all rfl) (by with_unfolding_all rfl) (by with_unfolding_all rfl) rfl (by with_unfolding_all rfl) ?_
          repeat' (with_reducible (apply opsV.fin; with_unfolding_all rfl; (with_unfolding_all (simp +decide (disch := first | decide | omega) only [go_sem, *]; rfl))))
          have hgv : decide (((cnt b (nth A i).st : Nat) : Int) = 0) = g := by rw [hg, goneAt_neg (by rw [u1]; exact hneg), dec_cast0, u3]
          refine ⟨rfl, { x := .und, ws := [((nth L i).id, nodeRow (nth A i).name (.nul (.pointer none)) (nth L i).sid (nth L i).cid g)] }, ?e1, ?h1, ?g1, ?g2, ?g3, ?g4⟩
          case g1 =>
            refine opE_store.trans ?_
            simp only [nodeRow]
            ((simp +decide (disch := first | decide | omega) only [go_sem, *]; done))
          case g2 => simp [hlive]
          case g3 =>
            simp +decide (disch := first | decide | omega) only [go_sem, *]
            rfl
          exact ⟨rfl, by (rfl), by (rfl), by ((simp +decide (disch := first | decide | omega) only [go_sem, *]; done)), by ((simp +decide (disch := first | decide | omega) only [go_sem, *]; done)), by ((simp +decide (disch := first | decide | omega) only [go_sem, *]; done)), by first | rfl | (simp; done) | (simp +decide (disch := first | decide | omega) only [go_sem, *]; done)⟩
        · have huv : upV L (nth A i).up = .ep (nth L (nth A i).up.toNat).id 0 0 := if_neg hneg
          rw [huv] at hn1 ⊢
          obtain ⟨P, hP⟩ : ∃ P, (nth A i).up.toNat = P := ⟨_, rfl⟩
          have hPi : P < i := by omega
          have hPL : P < L.length := by omega
          rw [hP] at hn1 ⊢
          obtain ⟨hp1, hp2, hp3⟩ := hNi.node P hPL
          unfold nodeRow at hp1
          obtain ⟨_, _, w3, w4⟩ := flashTo_same b A i P (by omega)
          have hinP := hbnd P hPL
          rw [← w3, ← w4] at hinP
          obtain ⟨kv3, ck3, hk3, hl3⟩ := hp2.cnt hinP.1
          obtain ⟨kv4, ck4, hk4, hl4⟩ := hp3.cnt hinP.2
          have hga := goneAt_pos (b := b) (A := flashTo b A i) (i := i) (P := P) (by rw [u1]; exact hneg) (by rw [u1]; exact hP)
          rw [← hg] at hga
          clear hg
          refine WP.regionVX2 44 [(nth L i).id] mixed (by with_unfolding_all rfl) (by with_unfolding_all rfl) (by with_unfolding_all rfl) rfl (by with_unfolding_all rfl) ?_
          rw [w3, w4, u3] at hga
          repeat' (with_reducible first | (apply opsV.fin; with_unfolding_all rfl; (with_unfolding_all (simp +decide (disch := first | decide | omega) only [go_sem, *]; rfl))) | (apply opsV.guardB 1; with_unfolding_all rfl; (with_unfolding_all (simp +decide (disch := first | decide | omega) only [go_sem, *]; rfl)); (simp +decide (disch := first | decide | omega) only [go_sem, *]; rfl); all_goals (intro hb; (fail_if_success (exact absurd hb (by decide))); (first | rw [dlt_t] at hb | rw [dlt_f] at hb | rw [dle_t] at hb | rw [dle_f] at hb | rw [Bool.not_eq_true'] at hb | rw [Bool.not_eq_false'] at hb | skip))) | (apply opsV.guardB 3; with_unfolding_all rfl; (with_unfolding_all (simp +decide (disch := first | decide | omega) only [go_sem, *]; rfl)); (simp +decide (disch := first | decide | omega) only [go_sem, *]; rfl); all_goals (intro hb; (fail_if_success (exact absurd hb (by decide))); (first | rw [dlt_t] at hb | rw [dlt_f] at hb | rw [dle_t] at hb | rw [dle_f] at hb | rw [Bool.not_eq_true'] at hb | rw [Bool.not_eq_false'] at hb | skip))))
          · have hgv : g = true := by rw [hga, hb]; rfl
            clear hga
            subst hgv
            refine ⟨rfl, { x := .und, ws := [((nth L i).id, nodeRow (nth A i).name (.ep (nth L P).id 0 0) (nth L i).sid (nth L i).cid true)] }, ?e1x1, ?h1x1, ?g1x1, ?g2x1, ?g3x1, ?g4x1⟩
            case g1x1 =>
              refine opE_store.trans ?_
              simp only [nodeRow]
              ((simp +decide (disch := first | decide | omega) only [go_sem, *]; done))
            case g2x1 => simp [hlive]
            case g3x1 =>
              simp +decide (disch := first | decide | omega) only [go_sem, *]
              rfl
            exact ⟨rfl, by (rfl), by (rfl), by ((simp +decide (disch := first | decide | omega) only [go_sem, *]; done)), by ((simp +decide (disch := first | decide | omega) only [go_sem, *]; done)), by ((simp +decide (disch := first | decide | omega) only [go_sem, *]; done)), by first | rfl | (simp; done) | (simp +decide (disch := first | decide | omega) only [go_sem, *]; done)⟩
          · have hgv : g = true := by rw [dec_cast] at hb; rw [hga, hb]; simp
            clear hga
            subst hgv
            refine ⟨rfl, { x := .und, ws := [((nth L i).id, nodeRow (nth A i).name (.ep (nth L P).id 0 0) (nth L i).sid (nth L i).cid true)] }, ?e1x2, ?h1x2, ?g1x2, ?g2x2, ?g3x2, ?g4x2⟩
            case g1x2 =>
              refine opE_store.trans ?_
              simp only [nodeRow]
              ((simp +decide (disch := first | decide | omega) only [go_sem, *]; done))
            case g2x2 => simp [hlive]
            case g3x2 =>
              simp +decide (disch := first | decide | omega) only [go_sem, *]
              rfl
            exact ⟨rfl, by (rfl), by (rfl), by ((simp +decide (disch := first | decide | omega) only [go_sem, *]; done)), by ((simp +decide (disch := first | decide | omega) only [go_sem, *]; done)), by ((simp +decide (disch := first | decide | omega) only [go_sem, *]; done)), by first | rfl | (simp; done) | (simp +decide (disch := first | decide | omega) only [go_sem, *]; done)⟩
          · rename_i hb1
            have hgv : decide (((cnt b (nth A i).st : Nat) : Int) = 0) = g := by rw [dec_cast] at hb; rw [hga, hb, hb1, dec_cast0]; rfl
            refine ⟨rfl, { x := .und, ws := [((nth L i).id, nodeRow (nth A i).name (.ep (nth L P).id 0 0) (nth L i).sid (nth L i).cid g)] }, ?e1x3, ?h1x3, ?g1x3, ?g2x3, ?g3x3, ?g4x3⟩
            case g1x3 =>
              refine opE_store.trans ?_
              simp only [nodeRow]
              ((simp +decide (disch := first | decide | omega) only [go_sem, *]; done))
            case g2x3 => simp [hlive]
            case g3x3 =>
              simp +decide (disch := first | decide | omega) only [go_sem, *]
              rfl
            exact ⟨rfl, by (rfl), by (rfl), by ((simp +decide (disch := first | decide | omega) only [go_sem, *]; done)), by ((simp +decide (disch := first | decide | omega) only [go_sem, *]; done)), by ((simp +decide (disch := first | decide | omega) only [go_sem, *]; done)), by first | rfl | (simp; done) | (simp +decide (disch := first | decide | omega) only [go_sem, *]; done)⟩
      · rintro s' h' ⟨k3, k5, k6, k7, k8, rfl⟩
        have hNg := hNi.mark hlt g
        rw [u1, u2] at hNg
        have hn1' := (hNg.node i hlt)
        obtain ⟨m1, m2, m3⟩ := hn1'
        rw [nth_set (by rw [flashTo_length]; omega), if_pos rfl] at m1 m2 m3
        simp only at m1 m2 m3
        rw [u1, u2] at m1
        obtain ⟨kv5, ck5, hk5, hl5⟩ := m2.cnt hinI.1
        obtain ⟨kv6, ck6, hk6, hl6⟩ := m3.cnt hinI.2
        have hfr' : ∀ j o, h0[j]? = some o → (∀ x ∈ L, j ≠ x.id) → (h.set (nth L i).id (nodeRow (nth A i).name (upV L (nth A i).up) (nth L i).sid (nth L i).cid g))[j]? = some o := fun j o hj hx => by
          rw [List.getElem?_set_ne (fun e => hx _ (nth_mem hlt) e.symm)]; exact hfr j o hj hx
        have hog' : OwnAt (h.set (nth L i).id (nodeRow (nth A i).name (upV L (nth A i).up) (nth L i).sid (nth L i).cid g)) (s 3) 3 (ints (goodsTo b A i)) := by
          rcases hog with ho | ⟨id, q1, q2⟩
          · exact .inl ho
          · refine .inr ⟨id, q1, ?_⟩
            rw [List.getElem?_set_ne (fun e => by rw [e, q2] at hn1; injection hn1 with hn1; cases hn1)]; exact q2
        have hA2 : (flashTo b A i).set i { nth (flashTo b A i) i with gone := g } = flashTo b A (i + 1) := by rw [flashTo, flashStep, ← hg]
        rw [hA2] at hNg
        have hl' : h0.length ≤ (h.set (nth L i).id (nodeRow (nth A i).name (upV L (nth A i).up) (nth L i).sid (nth L i).cid g)).length := by simpa using hlen
        clear hn1 hk1 hk2 hl1 hl2 hA2 hlive hrowk hfr hog hNi hlen hn2 hn3
        generalize h.set (nth L i).id (nodeRow (nth A i).name (upV L (nth A i).up) (nth L i).sid (nth L i).cid g) = h3 at *
        unfold nodeRow at m1
        have hgl := goodsTo_len b A i
        obtain ⟨q, hq, hL1⟩ := owns_int (L := [(s 3, 3, ints (goodsTo b A i))]) ⟨fun p hp => by simp at hp; subst hp; exact hog', by simp⟩ 0 rfl (y := .sl true [[.int .i64 (nth A i).name]]) (ys := [(nth A i).name]) rfl (by simp; omega)
        have hgood : goodAt b (flashTo b A i) i = (!g && decide (((cnt b (nth A i).ch : Nat) : Int) = ((cnt b (nth A i).st : Nat) : Int))) := by
          rw [goodAt, ← hg, dec_cast, u3, u4]
        obtain ⟨f1, f2, f3, f4⟩ := hog'.append_frame (P := pg.P) el22 rfl hq
        have hfrq : ∀ j o, h3[j]? = some o → (∀ es, o ≠ HO.row 3 es) → (setAll (h3 ++ q.ns) q.ws)[j]? = some o := fun j o hj hn => by
          rw [f3 j (List.getElem?_eq_some_iff.1 hj).1 fun hm => ?_]
          · exact hj
          · rcases hog' with ⟨e1, _⟩ | ⟨id, e1, e2⟩
            · rw [e1] at hm; simp [idsOf] at hm
            · rw [e1] at hm
              have : j = id := by simpa [idsOf] using hm
              subst this
              rw [hj] at e2; injection e2 with e2
              exact hn _ e2
        have hni : ∀ j, j < h0.length → (setAll (h3 ++ q.ns) q.ws)[j]? = h3[j]? := fun j hj => f3 j (by omega) (not_ids hog' hge hj)
        clear hg f3 f4
        repeat' (with_reducible first | refine WP.seq ?_ | refine WP.skip ?_ | refine seqK_normal ?_ | refine blockK_normal ?_ | (apply WP.regionE; (with_unfolding_all (simp +decide (disch := first | decide | omega) only [go_sem, *]; rfl))) | (apply WP.regionV1 mixed; with_unfolding_all rfl; with_unfolding_all rfl; (with_unfolding_all (simp +decide (disch := first | decide | omega) only [go_sem, *]; rfl))) | (apply WP.condF; (focus (simp +decide (disch := first | decide | omega) only [go_sem, *]; done))) | (apply WP.condB; (simp +decide (disch := first | decide | omega) only [go_sem, *]; rfl); all_goals (intro hb; (first | rw [dlt_t] at hb | rw [dlt_f] at hb | rw [dle_t] at hb | rw [dle_f] at hb | rw [Bool.not_eq_true'] at hb | rw [Bool.not_eq_false'] at hb | skip))) | (apply WP.guardB 0; with_unfolding_all rfl; (with_unfolding_all (simp +decide (disch := first | decide | omega) only [go_sem, *]; rfl)); (simp +decide (disch := first | decide | omega) only [go_sem, *]; rfl); all_goals (intro hb; (fail_if_success (exact absurd hb (by decide))); (first | rw [dlt_t] at hb | rw [dlt_f] at hb | rw [dle_t] at hb | rw [dle_f] at hb | rw [Bool.not_eq_true'] at hb | rw [Bool.not_eq_false'] at hb | skip))))
        · refine loopK_normal ⟨by ((simp +decide (disch := first | decide | omega) only [go_sem, *]; done)), by ((simp +decide (disch := first | decide | omega) only [go_sem, *]; done)), i + 1, by simp +decide (disch := first | decide | omega) only [go_sem, *]; rfl, by omega, ?_, ?_, ?_, ?_, ?_⟩ (by simp +decide (disch := first | decide | omega) only [go_sem, *]; omega)
          · refine ⟨hNg.len, hNg.diff, fun j hj => ?_⟩
            obtain ⟨n1, n2, n3⟩ := hNg.node j hj
            refine ⟨hfrq _ _ n1 (fun es e => by simp only [nodeRow] at e; injection e with e; cases e), n2.of fun o ho => ?_, n3.of fun o ho => ?_⟩
            · obtain ⟨z1, z2, z3, _⟩ := n2
              exact hfrq _ _ ho fun es e => by rw [z3] at ho; rw [e] at ho; injection ho with ho; cases ho
            · obtain ⟨z1, z2, z3, _⟩ := n3
              exact hfrq _ _ ho fun es e => by rw [z3] at ho; rw [e] at ho; injection ho with ho; cases ho
          · rw [f1]; omega
          · rename_i hb1
            rw [goodsTo, hgood, hb1, hb]
            have := hL1.get 0 rfl
            rw [f2] at this
            simpa [upd, ints_length] using this
          · intro id n e
            simp [upd] at e
            omega
          · intro j o hj hx
            have h1 := hfr' j o hj hx
            have hlt3 := (List.getElem?_eq_some_iff.1 hj).1
            rw [← h1]
            exact hni j hlt3
        · refine loopK_normal ⟨by ((simp +decide (disch := first | decide | omega) only [go_sem, *]; done)), by ((simp +decide (disch := first | decide | omega) only [go_sem, *]; done)), i + 1, by simp +decide (disch := first | decide | omega) only [go_sem, *]; rfl, by omega, hNg, hl', ?_, ?_, hfr'⟩ (by simp +decide (disch := first | decide | omega) only [go_sem, *]; omega)
          · rename_i hb1
            rw [goodsTo, hgood, hb1, hb]
            simpa [upd, k3] using hog'
          · intro id n e
            simp [upd, k3] at e
            exact hge id n e
        · refine loopK_normal ⟨by ((simp +decide (disch := first | decide | omega) only [go_sem, *]; done)), by ((simp +decide (disch := first | decide | omega) only [go_sem, *]; done)), i + 1, by simp +decide (disch := first | decide | omega) only [go_sem, *]; rfl, by omega, hNg, hl', ?_, ?_, hfr'⟩ (by simp +decide (disch := first | decide | omega) only [go_sem, *]; omega)
          · rw [goodsTo, hgood, hb]
            simpa [upd, k3] using hog'
          · intro id n e
            simp [upd, k3] at e
            exact hge id n e
    · omega
  · repeat' (with_reducible first | refine WP.seq ?_ | refine WP.skip ?_ | refine WP.block ?_ | refine WP.exit ?_ | refine seqK_normal ?_ | refine seqK_exit ?_ | refine loopK_exit ?_ | refine blockK_here ?_ | (apply WP.regionE; (with_unfolding_all (simp +decide (disch := first | decide | omega) only [go_sem, *]; rfl))) | (apply WP.condB; (simp +decide (disch := first | decide | omega) only [go_sem, *]; rfl); all_goals (intro hb; (first | rw [dlt_t] at hb | rw [dlt_f] at hb | rw [dle_t] at hb | rw [dle_f] at hb | rw [Bool.not_eq_true'] at hb | rw [Bool.not_eq_false'] at hb | skip))))
    · omega
    · have hit : i = L.length := by omega
      subst hit
      have hc := CallsH.sortOwn sorts sorts0 sz3 hog (goodsTo_le b A _ hL)
      repeat' (with_reducible first | (apply WP.regionX; with_unfolding_all rfl; (with_unfolding_all (simp +decide (disch := first | decide | omega) only [go_sem, *]; rfl))) | (apply opsT.call; (with_unfolding_all (simp +decide (disch := first | decide | omega) only [go_sem, *]; rfl)); (focus (simp +decide (disch := first | decide | omega) only [go_sem, *]; done)); (with_unfolding_all (simp +decide (disch := first | decide | omega) only [go_sem, *]; rfl))))
      refine hc.mono ?_
      rintro r h2 ⟨rfl, ho2, hl2, hf2⟩
      clear hc
      repeat' (with_reducible first | refine WP.seq ?_ | refine WP.ret ?_ | refine seqK_normal ?_ | (apply WP.regionE; (with_unfolding_all (simp +decide (disch := first | decide | omega) only [go_sem, *]; rfl))) | (apply opsT.fin; (with_unfolding_all (simp +decide (disch := first | decide | omega) only [go_sem, *]; rfl))))
      refine fnPost_ret (by simp +decide (disch := first | decide | omega) only [go_sem, *]; rfl) ?_
      refine flash_end (by omega) ho2 hge hN0 ⟨hNi.len, hNi.diff, fun j hj => ?_⟩ fun j o hj hx => ?_
      · obtain ⟨n1, n2, n3⟩ := hNi.node j hj
        have hm := hN0 _ (nth_mem hj)
        exact ⟨by rw [hf2 _ (not_ids hog hge hm.1)]; exact n1, n2.keep (hf2 _ (not_ids hog hge hm.2.1)), n3.keep (hf2 _ (not_ids hog hge hm.2.2))⟩
      · rw [hf2 _ (not_ids hog hge (List.getElem?_eq_some_iff.1 hj).1)]
        exact hfr j o hj hx

end Go.Proofs.Ytonhbeapffiibaa

