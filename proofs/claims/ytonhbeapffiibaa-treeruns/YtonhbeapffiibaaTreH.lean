/-
  Chapter 16: package tree: Step.
-/
import Derived.Test.YtonhbeapffiibaaTreG
namespace Go.Proofs.Ytonhbeapffiibaa
open Go.HL

structure Evn2 where
  good : List Int
  bad : List Int

theorem inB_hits (b : Bu) (set : List Int) (a : Int) (w : Bool) (hv : validB b = true) (ha : 0 ≤ a ∧ a < b.letters) (hset : ∀ i, i < set.length → 0 ≤ nth set i ∧ nth set i < b.next.length) : inB b (hits b set a w) := fun x hx => by
  obtain ⟨v1, v2, v3⟩ := validB_iff.1 hv
  obtain ⟨q, hq, m, hm, rfl, _⟩ := hits_iff.1 hx
  obtain ⟨i, hi, rfl⟩ := List.getElem_of_mem hq
  obtain ⟨k, hk, rfl⟩ := List.getElem_of_mem hm
  have h1 := hset i hi
  rw [nth_eq hi] at h1
  have h2 := v3 _ (show set[i].toNat < b.next.length by omega)
  have h3 := (okM_iff.1 (h2.2 a.toNat (by omega) k hk)).1
  have e : nth (rowOf b set[i] a) k = (rowOf b set[i] a)[k] := nth_eq hk
  rw [← e]
  exact h3

theorem inB_none (b : Bu) : inB b none' := fun x hx => by simp [none'] at hx

theorem trimStep_in {b : Bu} {A : List An} {i : Nat} (hA : ∀ j, j < A.length → inB b (nth A j).st ∧ inB b (nth A j).ch) (hi : i < A.length) : ∀ j, j < A.length → inB b (nth (trimStep A i) j).st ∧ inB b (nth (trimStep A i) j).ch := by
  intro j hj
  unfold trimStep
  split
  · exact hA j hj
  · have hst : inB b fun q => (nth A i).st q && ((nth A (nth A i).up.toNat).st q && !(nth A (nth A i).up.toNat).ch q) := fun x hx => by
      simp only [Bool.and_eq_true] at hx
      exact (hA i hi).1 x hx.1
    simp only
    rw [nth_set (by simpa using hj)]
    split
    · rename_i e
      rw [e]
      refine ⟨(hA j hj).1, fun x hx => ?_⟩
      simp only [Bool.or_eq_true] at hx
      rcases hx with hx | hx
      · exact (hA j hj).2 x hx
      · rw [← e] at hx; exact hst x hx
    · rw [nth_set hj]
      split
      · exact ⟨hst, (hA i hi).2⟩
      · exact hA j hj

theorem trimTo_in {b : Bu} {A : List An} (hA : ∀ j, j < A.length → inB b (nth A j).st ∧ inB b (nth A j).ch) : ∀ i, i ≤ A.length → ∀ j, j < A.length → inB b (nth (trimTo A i) j).st ∧ inB b (nth (trimTo A i) j).ch
  | 0, _ => hA
  | i + 1, hi => fun j hj => by
    have := trimStep_in (A := trimTo A i) (i := i) (fun j hj => trimTo_in hA i (by omega) j (by rwa [trimTo_length] at hj)) (by rw [trimTo_length]; omega) j (by rw [trimTo_length]; exact hj)
    exact this

/-- The nodes after flash. -/
def flashed (b : Bu) (t : List Nd) (a : Int) : List An := flashTo b (trimTo (grown b t a) (2 * t.length)) (2 * t.length)
def badsTo (F : List An) : Nat → List Int
  | 0 => []
  | i + 1 => badsTo F i ++ (if (nth F i).gone then [(nth F i).name] else [])
def sortI (l : List Int) : List Int := l.mergeSort fun x y => decide (x ≤ y)
def usedP (t : List Nd) : Int → Bool := memP (t.map (·.name))
def keptS (b : Bu) (t : List Nd) (a : Int) : List Nat := keptI (flashed b t a) (2 * t.length)
def namedS (b : Bu) (t : List Nd) (a : Int) : List An := (nameTo (usedP t) (2 * b.next.length) (flashed b t a) (keptS b t a) (keptS b t a).length).1
def parS (I : List Nat) (A : List An) (i : Nat) : Int := if (nth A i).up < 0 then -1 else idxF I fun j => decide (j = (nth A i).up.toNat)
def outS (b : Bu) (t : List Nd) (a : Int) : List Nd := (keptS b t a).map fun i => ⟨(nth (namedS b t a) i).name, parS (keptS b t a) (namedS b t a) i, elems b (nth (namedS b t a) i).st⟩
def evS (b : Bu) (t : List Nd) (a : Int) : Evn := ⟨sortI (goodsTo b (trimTo (grown b t a) (2 * t.length)) (2 * t.length)), sortI (badsTo (flashed b t a) t.length)⟩

def okStep (b : Bu) (t : List Nd) (a : Int) : Prop := validT b t = true ∧ 0 ≤ a ∧ a < b.letters
instance (b : Bu) (t : List Nd) (a : Int) : Decidable (okStep b t a) := by unfold okStep; infer_instance
/-- The tree after a letter, and what happened to the names. -/
def stepT (b : Bu) (t : List Nd) (a : Int) : List Nd × Evn := if okStep b t a then (outS b t a, evS b t a) else ([], ⟨[], []⟩)

theorem badsTo_len (F : List An) : ∀ i, (badsTo F i).length ≤ i
  | 0 => by simp [badsTo]
  | i + 1 => by
    have := badsTo_len F i
    rw [badsTo, List.length_append]
    split <;> simp <;> omega

theorem own_keep {h h' : Hp} {x : HV} {t : TypeId} {es : List (List HV)} (ho : OwnAt h x t es) (hf : ∀ j : Nat, h[j]? = some (HO.row t es) → h'[j]? = some (HO.row t es)) : OwnAt h' x t es := by
  rcases ho with ho | ⟨id, h1, h2⟩
  · exact .inl ho
  · exact .inr ⟨id, h1, hf id h2⟩

theorem tree_listF (b : Bu) (p : Int → Bool) (h : Hp) (id : Nat) (hs : SetAt h id p) (hn : b.next.length ≤ 3000) (hp : inB b p) : CallsH pg 40 [.mp id] h (fun r h' => r = .sl false (ints (elems b p)) ∧ h' = h) := by
  refine CallsH.fresh ((tree_list b p h id hs hn hp).mono ?_)
  rintro r h' ⟨hpre, ho, k, rfl, hk⟩
  refine ⟨fun id hid => hpre.at hid, hpre.len, 1, ?_⟩
  have hnew := own_new ho (k := h.length) (fun id n e => by injection e with e; omega)
  have hr := hnew.row
  exact rdV_row hr.1 (by rw [ints_length]) (ints_free _)

theorem opsV.callF {C : Cx} {ops : Array Oper} {e : Env} {h : Hp} {Q : Env → Hp → Prop} {rest : List Oper} {dst : Option Tmp} {f : Operand} {args : Array Operand} {ts : Array TypeId} {ty : TypeId} {pos : String} {after : Array Edge} {g : FuncId} {fs cs xs : List HV} {v : HV} (hf : ev pg e f = .fn (.func g) fs cs) (hen : entersH pg.P g = true)
    (hx : fs ++ args.toList.map (ev pg e) ++ cs = xs) (hc : ∀ h', hle h h' → CallsH pg g xs h' (fun r h'' => r = v ∧ h'' = h')) (hq : opsV pg C ops Q rest (putE C.N e dst v) h) : opsV pg C ops Q (⟨dst, .call ⟨.value f, args, ts⟩, ty, pos, after, none⟩ :: rest) e h := by
  subst hx
  simp only [opsV, wantH, stepD, hf]
  refine ⟨hen, v, [], hc, ?_⟩
  first | exact ⟨rfl, rfl, hq⟩ | exact ⟨trivial, trivial, hq⟩ | exact ⟨rfl, trivial, hq⟩ | exact ⟨trivial, hq⟩ | exact hq

theorem SetAt.hle {h h' : Hp} {id : Nat} {p : Int → Bool} (hs : SetAt h id p) (hl : Go.HL.hle h h') : SetAt h' id p := by
  obtain ⟨q1, q2, q3, q4⟩ := hs
  exact ⟨q1, q2, hl _ _ rfl q3, q4⟩

theorem nameTo_same (used : Int → Bool) (M : Nat) (A : List An) (I : List Nat) : ∀ k, k ≤ I.length → ∀ j, j < A.length → (nth (nameTo used M A I k).1 j).up = (nth A j).up ∧ (nth (nameTo used M A I k).1 j).st = (nth A j).st ∧ (nth (nameTo used M A I k).1 j).gone = (nth A j).gone
  | 0, _ => fun j hj => by simp [nameTo]
  | k + 1, h => fun j hj => by
    have ih := nameTo_same used M A I k (by omega) j hj
    rw [nameTo_succ used M A I (by omega)]
    unfold nameStep
    split
    · exact ih
    · simp only
      rw [nth_set (by rw [nameTo_length used M A I k (by omega)]; exact hj)]
      split
      · rename_i e; subst e; exact ih
      · exact ih

theorem idxP_eq {L : List Pl} {A : List An} {h : Hp} (hN : NodesAt h L A) {I : List Nat} (hI : ∀ i ∈ I, i < L.length) {u : Nat} (hu : u < L.length) : idxP (I.map (nth L)) (nth L u) = idxF I fun j => decide (j = u) := by
  unfold idxP idxF
  rw [List.findIdx?_map]
  have : I.findIdx? ((fun y : Pl => decide (y.id = (nth L u).id)) ∘ nth L) = I.findIdx? fun j => decide (j = u) := by
    induction I with
    | nil => rfl
    | cons i I ih =>
      have hi := hI i (by simp)
      have e : decide ((nth L i).id = (nth L u).id) = decide (i = u) := by
        rw [decide_eq_decide]
        refine ⟨fun e => Classical.byContradiction fun hne => (hN.diff.at hi hu hne).1 e, fun e => by rw [e]⟩
      simp only [List.findIdx?_cons, Function.comp, e, ih fun i hi => hI i (by simp [hi])]
  rw [this]

def zNd : List HV := [.int .i64 0, .int .i64 0, .sl true []]
def partR (O : List Nd) (i : Nat) : List (List HV) := nds (O.take i) ++ List.replicate (O.length - i) zNd

theorem partR_get {O : List Nd} {i : Nat} (h : i < O.length) : (partR O i)[i]? = some zNd := by
  unfold partR
  rw [List.getElem?_append_right (by rw [nds_length, List.length_take]; omega), nds_length, List.length_take, List.getElem?_replicate]
  rw [if_pos (by omega)]
theorem partR_set {O : List Nd} {i : Nat} (h : i < O.length) : (partR O i).set i (ndC (nth O i)) = partR O (i + 1) := by
  unfold partR
  have hl : (nds (O.take i)).length = i := by rw [nds_length, List.length_take]; omega
  rw [List.set_append_right _ _ (by omega), hl, Nat.sub_self, take_nth h, ← nds_append, List.append_assoc]
  congr 1
  obtain ⟨k, hk⟩ : ∃ k, O.length - i = k + 1 := ⟨O.length - i - 1, by omega⟩
  rw [hk, List.replicate_succ, List.set_cons_zero, show O.length - (i + 1) = k by omega]
  rfl
theorem partR_zero (O : List Nd) : partR O 0 = List.replicate O.length zNd := by simp [partR, nds]
theorem partR_full (O : List Nd) : partR O O.length = nds O := by simp [partR]
theorem set_set_same {α : Type} (l : List α) (i : Nat) (a b : α) : (l.set i a).set i b = l.set i b := by
  rw [List.set_set]

theorem rd_result {h : Hp} {oid m : Nat} {O : List Nd} {G B : List Int} {x : HV} (h1 : h[oid]? = some (.row 43 (nds O))) (hm : m = O.length) (hx : OwnAt h x 3 (ints B)) :
    ∃ y, rdV h 3 (.tup [.ow oid 0 m, .agg [.sl false (ints G), x]]) = some y ∧ y.dim = .tup [.sl false (nds O), .agg [.sl false (ints G), .sl false (ints B)]] := by
  obtain ⟨fl, hf⟩ : ∃ fl, rdV h 1 x = some (.sl fl (ints B)) := hx.read (ints_free _)
  have e1 : rdV h 2 (.ow oid 0 m) = some (.sl false (nds O)) := rdV_row h1 (by rw [nds_length, hm]) (nds_free _)
  have e2 : rdV h 1 (.sl false (ints G)) = some (.sl false (ints G)) := rdV_free 1 _ (by simp [HV.free, ints_free])
  refine ⟨.tup [.sl false (nds O), .agg [.sl false (ints G), .sl fl (ints B)]], ?_, ?_⟩
  · have e3 : rdL h 1 [.sl false (ints G), x] = some [.sl false (ints G), .sl fl (ints B)] := rdL_cons e2 (rdL_cons hf rdL_nil)
    have e4 : rdV h 2 (.agg [.sl false (ints G), x]) = some (.agg [.sl false (ints G), .sl fl (ints B)]) := by simp only [rdV, e3, Option.map_some]
    have e5 := rdL_cons e1 (rdL_cons e4 (rdL_nil (h := h) (n := 2)))
    simp only [rdV, e5, Option.map_some]
  · simp only [HV.dim, HV.dimL, dim_nds, dim_ints]

/-- All stays but lists of numbers and one row. -/
theorem NodesAt.fr3 {h h' : Hp} {L : List Pl} {A : List An} (hn : NodesAt h L A) {e : Nat} {es0 : List (List HV)} (he : h[e]? = some (.row 31 es0)) (hf : ∀ (j : Nat) (o : HO), h[j]? = some o → j ≠ e → (∀ es, o ≠ HO.row 3 es) → h'[j]? = some o) : NodesAt h' L A := by
  refine ⟨hn.len, hn.diff, fun j hj => ?_⟩
  obtain ⟨n1, n2, n3⟩ := hn.node j hj
  have hs : ∀ id p, SetAt h id p → SetAt h' id p := fun id p hp => by
    have hne := row_ne he hp
    obtain ⟨q1, q2, q3, q4⟩ := hp
    exact ⟨q1, q2, hf _ _ q3 (Ne.symm hne) (fun es e => by cases e), q4⟩
  refine ⟨hf _ _ n1 (fun e1 => ?_) (fun es e => by simp only [nodeRow] at e; injection e with e; cases e), hs _ _ n2, hs _ _ n3⟩
  rw [e1, he] at n1; simp only [nodeRow] at n1; injection n1 with n1; cases n1

theorem opE_nilCheck {own : Bool} {ρ : Operand → HV} {h : Hp} {nid : Nat} {x : Operand} {id i off : Nat} (hx : ρ x = .ep id i off) : opE pg own ρ h nid (.nilCheck x) = some { x := .ep id i off } := by
  simp [opE, opV, hx]

theorem list_not_node {h : Hp} {L : List Pl} {A : List An} (hN : NodesAt h L A) {j : Nat} {t : TypeId} {es : List (List HV)} (hj : h[j]? = some (.row t es)) (ht : t ≠ 70) : ∀ x ∈ L, j ≠ x.id ∧ j ≠ x.sid ∧ j ≠ x.cid := fun x hx => by
  obtain ⟨i, hi, rfl⟩ := List.getElem_of_mem hx
  obtain ⟨n1, n2, n3⟩ := hN.node i hi
  rw [nth_eq hi] at n1 n2 n3
  refine ⟨fun e => ?_, row_ne hj n2, row_ne hj n3⟩
  rw [← e, hj] at n1; simp only [nodeRow] at n1; injection n1 with n1; injection n1 with n1 _; exact ht n1

set_option maxHeartbeats 8000000 in
set_option maxRecDepth 8000 in
theorem tree_Step0 (b : Bu) (t : List Nd) (a : Int) (hvt : CallsP pg 19 [.agg (buC b), .sl false (nds t)] (fun v => v = .bool (validT b t))) (ho : okStep b t a) (ht0 : t.length ≠ 0) :
    CallsP pg 12 [.agg (buC b), .sl false (nds t), .int .i64 a] (fun v => v.dim = .tup [.sl false (nds (outS b t a)), .agg (evnC (evS b t a))]) := by
  obtain ⟨hv, ha⟩ := ho
  obtain ⟨hvb, htl, hok⟩ := validT_iff.1 hv
  have hb3 := (validB_iff.1 hvb).1.2.2
  refine CallsP.of_wpN [] 127 fn12 rfl rfl ?_
  refine WP.abs (fun s => s 0 = .agg (buC b) ∧ s 1 = .sl false (nds t) ∧ s 2 = .int .i64 a) ⟨rfl, rfl, rfl⟩ ?_
  rintro s ⟨g0, g1, g2⟩
  have hpar : ∀ j, j < t.length → (nth t j).par < j := fun j hj => by
    have := (okN_nth.1 (hok j hj)).1
    unfold okH at this; omega
  have hga : ¬ a < 0 := by omega
  have hgb : ¬ b.letters ≤ a := by omega
  repeat' (with_reducible first | refine WP.seq ?_ | refine WP.skip ?_ | refine seqK_normal ?_ | (apply WP.regionE; (with_unfolding_all (simp +decide (disch := first | decide | omega) only [go_sem, *]; rfl))) | (apply WP.regionX; with_unfolding_all rfl; (with_unfolding_all (simp +decide (disch := first | decide | omega) only [go_sem, *]; rfl))) | (apply opsT.call; (with_unfolding_all (simp +decide (disch := first | decide | omega) only [go_sem, *]; rfl)); (focus (simp +decide (disch := first | decide | omega) only [go_sem, *]; done)); (with_unfolding_all (simp +decide (disch := first | decide | omega) only [go_sem, *]; rfl))) | (apply opsT.fin; (with_unfolding_all (simp +decide (disch := first | decide | omega) only [go_sem, *]; rfl))) | (apply CallsP.eq (hvt); (focus (simp +decide (disch := first | decide | omega) only [go_sem, *]; done))) | (apply WP.condF; (focus (simp +decide (disch := first | decide | omega) only [go_sem, *]; done))))
  refine (tree_grow b t a _ hv ha).mono ?_
  rintro r h ⟨Lo, Ln, hpre, hG, hor⟩
  obtain ⟨L, hL⟩ : ∃ L, L = Lo ++ Ln := ⟨_, rfl⟩
  have hlL : L.length = 2 * t.length := by rw [hL, List.length_append, hG.lo, hG.ln]; omega
  have hN := hG.nodes hpar
  have hbig := hG.big
  rw [← hL] at hN hor hbig
  have hlG := grown_length b t a
  have hup : ∀ j, j < L.length → -1 ≤ (nth (grown b t a) j).up ∧ (nth (grown b t a) j).up < j := fun j hj => by
    by_cases hjt : j < t.length
    · rw [grown_old hjt]
      have := (okN_nth.1 (hok j hjt)).1
      unfold okH at this; simp only; omega
    · obtain ⟨k, rfl⟩ : ∃ k, j = t.length + k := ⟨j - t.length, by omega⟩
      rw [grown_new (by omega)]; simp only; omega
  have hin : ∀ j, j < (grown b t a).length → inB b (nth (grown b t a) j).st ∧ inB b (nth (grown b t a) j).ch := fun j hj => by
    have hset : ∀ i, i < t.length → ∀ k, k < (nth t i).set.length → 0 ≤ nth (nth t i).set k ∧ nth (nth t i).set k < b.next.length := fun i hi k hk => (okE_iff.1 ((okN_nth.1 (hok i hi)).2.1 k hk)).1
    by_cases hjt : j < t.length
    · rw [grown_old hjt]
      exact ⟨inB_hits b _ a false hvb ha (hset j hjt), inB_none b⟩
    · obtain ⟨k, rfl⟩ : ∃ k, j = t.length + k := ⟨j - t.length, by omega⟩
      rw [grown_new (by omega)]
      exact ⟨inB_hits b _ a true hvb ha (hset k (by omega)), inB_none b⟩
  clear hG hL
  have hb0 : h[0]? = some (.row 25 [buC b]) := by rw [hpre.at (by simp)]; rfl
  have hb1 : h[1]? = some (.row 31 [[.sl true [], .sl true []]]) := by rw [hpre.at (by simp)]; rfl
  repeat' (with_reducible first | refine WP.seq ?_ | refine seqK_normal ?_ | (apply WP.regionX; with_unfolding_all rfl; (with_unfolding_all (simp +decide (disch := first | decide | omega) only [go_sem, *]; rfl))) | (apply opsT.call; (with_unfolding_all (simp +decide (disch := first | decide | omega) only [go_sem, *]; rfl)); (focus (simp +decide (disch := first | decide | omega) only [go_sem, *]; done)); (with_unfolding_all (simp +decide (disch := first | decide | omega) only [go_sem, *]; rfl))) | (apply opsT.fin; (with_unfolding_all (simp +decide (disch := first | decide | omega) only [go_sem, *]; rfl))))
  refine (tree_trim L _ r h hN hor (by omega) hup).mono ?_
  rintro r2 h2 ⟨hN2, hl2, hfr2⟩
  have hor2 : OwnAt h2 r 66 (eps L) := own_keep hor fun j hj => hfr2 j _ hj fun x hx => (list_not_node hN hj (by decide) x hx).2
  have hb02 := hfr2 0 _ hb0 fun x hx => (list_not_node hN hb0 (by decide) x hx).2
  have hb12 := hfr2 1 _ hb1 fun x hx => (list_not_node hN hb1 (by decide) x hx).2
  clear hfr2
  repeat' (with_reducible first | refine WP.seq ?_ | refine seqK_normal ?_ | (apply WP.regionX; with_unfolding_all rfl; (with_unfolding_all (simp +decide (disch := first | decide | omega) only [go_sem, *]; rfl))) | (apply opsT.call; (with_unfolding_all (simp +decide (disch := first | decide | omega) only [go_sem, *]; rfl)); (focus (simp +decide (disch := first | decide | omega) only [go_sem, *]; done)); (with_unfolding_all (simp +decide (disch := first | decide | omega) only [go_sem, *]; rfl))) | (apply opsT.fin; (with_unfolding_all (simp +decide (disch := first | decide | omega) only [go_sem, *]; rfl))))
  have hupT : ∀ j, j < L.length → -1 ≤ (nth (trimTo (grown b t a) L.length) j).up ∧ (nth (trimTo (grown b t a) L.length) j).up < j := fun j hj => by
    rw [(trimTo_up (grown b t a) L.length j (by omega)).1]; exact hup j hj
  have hinT : ∀ j, j < L.length → inB b (nth (trimTo (grown b t a) L.length) j).st ∧ inB b (nth (trimTo (grown b t a) L.length) j).ch := fun j hj => trimTo_in hin L.length (by omega) j (by omega)
  refine (tree_flash b L _ r h2 hN2 hor2 (by omega) hupT hinT).mono ?_
  rintro r3 h3 ⟨rfl, hN3, hl3, hfr3⟩
  have hor3 : OwnAt h3 r 66 (eps L) := own_keep hor2 fun j hj => hfr3 j _ hj fun x hx => (list_not_node hN2 hj (by decide) x hx).1
  have hb03 := hfr3 0 _ hb02 fun x hx => (list_not_node hN2 hb02 (by decide) x hx).1
  have hb13 := hfr3 1 _ hb12 fun x hx => (list_not_node hN2 hb12 (by decide) x hx).1
  clear hfr3 hN2 hN hor hor2 hb0 hb1 hb02 hb12 hup hin
  rw [hlL] at hN3 ⊢
  have hgoods := goodsTo_len b (trimTo (grown b t a) (2 * t.length)) (2 * t.length)
  obtain ⟨G, hG⟩ : ∃ G, sortI (goodsTo b (trimTo (grown b t a) (2 * t.length)) (2 * t.length)) = G := ⟨_, rfl⟩
  obtain ⟨F, hF⟩ : ∃ F, flashed b t a = F := ⟨_, rfl⟩
  have hF' : flashTo b (trimTo (grown b t a) (2 * t.length)) (2 * t.length) = F := hF
  have hG' : ((goodsTo b (trimTo (grown b t a) (2 * t.length)) (2 * t.length)).mergeSort fun x y => decide (x ≤ y)) = G := hG
  have hinF : ∀ j, j < 2 * t.length → inB b (nth F j).st ∧ -1 ≤ (nth F j).up ∧ (nth F j).up < j := fun j hj => by
    obtain ⟨w1, _, w3, _⟩ := flashTo_same b (trimTo (grown b t a) (2 * t.length)) (2 * t.length) j (by rw [trimTo_length, grown_length]; exact hj)
    have h1 := hinT j (by omega)
    have h2 := hupT j (by omega)
    rw [hlL] at h1 h2
    rw [← hF', w1, w3]
    exact ⟨h1.1, h2⟩
  clear hinT hupT
  rw [hF'] at hN3
  rw [hG']
  have heidl : 2 ≤ h3.length := by have := hpre.len; simp at this; omega
  have ht1 : 0 < L.length := by omega
  rcases hor3 with ⟨rfl, hnil⟩ | ⟨k, rfl, hrow⟩
  · exfalso
    have := congrArg List.length hnil
    rw [eps_length, List.length_nil] at this
    omega
  rw [eps_length, hlL]
  have hk4 : (h3 ++ [HO.row 31 [[.sl false (ints G), .sl true []]]])[k]? = some (.row 66 (eps L)) := by
    rw [List.getElem?_append_left (List.getElem?_eq_some_iff.1 hrow).1]; exact hrow
  have hs0 : t.length - 0 = t.length := rfl
  repeat' (with_reducible first | refine WP.seq ?_ | refine WP.block ?_ | refine seqK_normal ?_ | (apply WP.regionE; (with_unfolding_all (simp +decide (disch := first | decide | omega) only [go_sem, *]; rfl))) | (apply opsT.fin; (with_unfolding_all (simp +decide (disch := first | decide | omega) only [go_sem, *]; rfl))))
  clear hk4 hs0
  refine WP.loop (fun s h => s 1 = .sl false (nds t) ∧ s 3 = .ep 0 0 0 ∧ s 7 = .ep 1 0 0 ∧ s 8 = .ow k 0 (2 * t.length) ∧ s 9 = .ep h3.length 0 0 ∧ s 45 = .ow k 0 t.length ∧ s 46 = .int .i64 t.length ∧ ∃ i : Nat, s 47 = .int .i64 i ∧ i ≤ t.length ∧ h3.length < h.length ∧ h[0]? = some (.row 25 [buC b]) ∧ h[1]? = some (.row 31 [[.sl true [], .sl true []]]) ∧ h[k]? = some (.row 66 (eps L)) ∧ NodesAt h L F ∧ ∃ x, h[h3.length]? = some (.row 31 [[.sl false (ints G), x]]) ∧ OwnAt h x 3 (ints (badsTo F i)) ∧ (∀ id n, x = .ow id 0 n → h3.length < id)) (fun s _ => t.length - (s 47).toInt.toNat)
    ⟨by ((simp +decide (disch := first | decide | omega) only [go_sem, *]; done)), by (rfl), by (rfl), by (rfl), by (rfl), by (rfl), by (rfl), 0, by simp +decide (disch := first | decide | omega) only [go_sem, *]; rfl, by omega, ?_, ?_, ?_, ?_, ?_, .sl true [], ?_, .inl ⟨rfl, rfl⟩, fun id n e => by cases e⟩ ?_
  · simp
  · rw [List.getElem?_append_left (by omega)]; exact hb03
  · rw [List.getElem?_append_left (by omega)]; exact hb13
  · rw [List.getElem?_append_left (List.getElem?_eq_some_iff.1 hrow).1]; exact hrow
  · exact hN3.keep (.pre ⟨_, rfl⟩)
  · simp
  clear g0 g1 g2 hrow hb03 hb13 hN3
  rintro s h ⟨g1, g3, g7, g8, g9, g45, g46, i, g47, hi, hel, hb0, hb1, hrow, hN, x, hx, hox, hxe⟩
  by_cases hlt : i < t.length
  · obtain ⟨hn1, hn2, hn3⟩ := hN.node i (by omega)
    unfold nodeRow at hn1
    have hbl := badsTo_len F i
    obtain ⟨q, hq, hL1⟩ := owns_int (L := [(x, 3, ints (badsTo F i))]) ⟨fun p hp => by simp at hp; subst hp; exact hox, by simp⟩ 0 rfl (y := .sl true [[.int .i64 (nth F i).name]]) (ys := [(nth F i).name]) rfl (by simp; omega)
    obtain ⟨f1, f2, f3, f4⟩ := hox.append_frame (P := pg.P) el22 rfl hq
    obtain ⟨qx, qws, qns⟩ := q
    have f2' : qx = HV.ow h.length 0 ((badsTo F i).length + 1) := by rw [show qx = _ from f2, ints_length]; rfl
    clear f2
    subst f2'
    have hL1' : OwnsL (setAll (h ++ qns) qws) [(HV.ow h.length 0 ((badsTo F i).length + 1), 3, ints (badsTo F i ++ [(nth F i).name]))] := hL1
    clear hL1
    have hliv := liveB_own hox f4
    have hxn : ∀ j, j ≤ h3.length → ¬ j ∈ idsOf x := fun j hj => not_ids (k := h3.length + 1) hox (fun id n e => by have := hxe id n e; omega) (by omega)
    have hx8 : (setAll (h ++ qns) qws)[h3.length]? = some (.row 31 [[.sl false (ints G), x]]) := by
      rw [f3 _ hel (hxn _ (Nat.le_refl _))]; exact hx
    repeat' (with_reducible first | refine WP.seq ?_ | refine WP.skip ?_ | refine WP.block ?_ | refine WP.exit ?_ | refine seqK_normal ?_ | refine seqK_exit ?_ | refine loopK_exit ?_ | refine blockK_normal ?_ | refine blockK_here ?_ | (apply WP.regionE; (with_unfolding_all (simp +decide (disch := first | decide | omega) only [go_sem, *]; rfl))) | (apply WP.condB; (simp +decide (disch := first | decide | omega) only [go_sem, *]; rfl); all_goals (intro hb; (first | rw [dlt_t] at hb | rw [dlt_f] at hb | rw [dle_t] at hb | rw [dle_f] at hb | rw [Bool.not_eq_true'] at hb | rw [Bool.not_eq_false'] at hb | skip))))
    · refine WP.regionDA [[],[],[],[],[],[],[],[],idsOf x,[],[h3.length]] mixed (by with_unfolding_all rfl) ?_
      refine opsD.seg 1 (j := 1) (nw' := [[]]) (by with_unfolding_all rfl) (by with_unfolding_all rfl) rfl rfl (by (with_unfolding_all (simp +decide (disch := first | decide | omega) only [go_sem, *]; rfl))) ?_
      refine opsD.step (h1 := h) (h2 := h) (nw' := [[],[]]) (r := { x := x }) [] (by with_unfolding_all rfl) (by with_unfolding_all rfl) rfl (by with_unfolding_all rfl) ?a1 rfl rfl (by simp [setAll]) ?_
      case a1 =>
        refine opE_load.trans ?_
        ((simp +decide (disch := first | decide | omega) only [go_sem, *]; done))
      refine opsD.seg 1 (j := 3) (nw' := [[],[],[]]) (by with_unfolding_all rfl) (by with_unfolding_all rfl) rfl rfl (by (with_unfolding_all (simp +decide (disch := first | decide | omega) only [go_sem, *]; rfl))) ?_
      refine opsD.step (h1 := h) (h2 := h) (nw' := [[],[],[],[]]) (r := { x := .ep (nth L i).id 0 0 }) [] (by with_unfolding_all rfl) (by with_unfolding_all rfl) rfl (by with_unfolding_all rfl) ?a6 rfl rfl (by simp [setAll]) ?_
      case a6 =>
        refine opE_nilCheck ?_
        (rfl)
      refine opsD.seg 2 (j := 6) (nw' := [[],[],[],[],[],[]]) (by with_unfolding_all rfl) (by with_unfolding_all rfl) rfl rfl (by (with_unfolding_all (simp +decide (disch := first | decide | omega) only [go_sem, *]; rfl))) ?_
      refine opsD.step (h1 := h) (h2 := h) (nw' := [[],[],[],[],[],[],[]]) (r := { x := .int .i64 (nth F i).name }) [] (by with_unfolding_all rfl) (by with_unfolding_all rfl) rfl (by with_unfolding_all rfl) ?a2 rfl rfl (by simp [setAll]) ?_
      case a2 =>
        refine opE_load.trans ?_
        ((simp +decide (disch := first | decide | omega) only [go_sem, *]; done))
      refine opsD.seg 1 (j := 8) (nw' := [[],[],[],[],[],[],[],[]]) (by with_unfolding_all rfl) (by with_unfolding_all rfl) rfl rfl (by (with_unfolding_all (simp +decide (disch := first | decide | omega) only [go_sem, *]; rfl))) ?_
      refine opsD.step (h1 := h) (h2 := setAll (h ++ qns) qws) (nw' := [[],[],[],[],[],[],[],[],newIds h.length ⟨HV.ow h.length 0 ((badsTo F i).length + 1), qws, qns⟩]) (r := ⟨HV.ow h.length 0 ((badsTo F i).length + 1), qws, qns⟩) [] (by with_unfolding_all rfl) (by with_unfolding_all rfl) rfl (by with_unfolding_all rfl) ?a3 hliv rfl rfl ?_
      case a3 =>
        refine opE_append.trans ?_
        refine Eq.trans ?_ hq
        simp +decide (disch := first | decide | omega) only [go_sem, *]
      generalize setAll (h ++ qns) qws = h8 at *
      refine opsD.seg 1 (j := 10) (nw' := [[],[],[],[],[],[],[],[],newIds h.length ⟨HV.ow h.length 0 ((badsTo F i).length + 1), qws, qns⟩,[]]) (by with_unfolding_all rfl) (by with_unfolding_all rfl) rfl rfl (by (with_unfolding_all (simp +decide (disch := first | decide | omega) only [go_sem, *]; rfl))) ?_
      refine opsD.step (h1 := h8) (h2 := h8.set h3.length (.row 31 [[.sl false (ints G), (HV.ow h.length 0 ((badsTo F i).length + 1))]])) (nw' := [[],[],[],[],[],[],[],[],newIds h.length ⟨HV.ow h.length 0 ((badsTo F i).length + 1), qws, qns⟩,[],[h3.length]]) (r := { x := .und, ws := [(h3.length, .row 31 [[.sl false (ints G), (HV.ow h.length 0 ((badsTo F i).length + 1))]])] }) [] (by with_unfolding_all rfl) (by with_unfolding_all rfl) rfl (by with_unfolding_all rfl) ?a4 ?a5 rfl (by first | rfl | (simp [setAll]; done) | (show setAll (h8 ++ []) _ = _; rw [List.append_nil]; rfl)) ?_
      case a4 =>
        refine opE_store.trans ?_
        ((simp +decide (disch := first | decide | omega) only [go_sem, *]; done))
      case a5 => simp [liveB, hx8, HO.live]
      refine opsD.fin (by with_unfolding_all rfl) ?_
      repeat' (with_reducible first | refine seqK_normal ?_ | refine blockK_normal ?_ | (apply WP.regionE; (with_unfolding_all (simp +decide (disch := first | decide | omega) only [go_sem, *]; rfl))))
      have hfr8 : ∀ (j : Nat) (o : HO), h[j]? = some o → j ≠ h3.length → (∀ es, o ≠ HO.row 3 es) → (h8.set h3.length (HO.row 31 [[.sl false (ints G), (HV.ow h.length 0 ((badsTo F i).length + 1))]]))[j]? = some o := fun j o hj hne hn => by
        rw [List.getElem?_set_ne (Ne.symm hne), f3 j (List.getElem?_eq_some_iff.1 hj).1 fun hm => ?_]
        · exact hj
        · rcases hox with ⟨e1, _⟩ | ⟨id, e1, e2⟩
          · rw [e1] at hm; simp [idsOf] at hm
          · rw [e1] at hm
            have : j = id := by simpa [idsOf] using hm
            subst this
            rw [hj] at e2; injection e2 with e2
            exact hn _ e2
      refine loopK_normal ⟨by ((simp +decide (disch := first | decide | omega) only [go_sem, *]; done)), by ((simp +decide (disch := first | decide | omega) only [go_sem, *]; done)), by ((simp +decide (disch := first | decide | omega) only [go_sem, *]; done)), by ((simp +decide (disch := first | decide | omega) only [go_sem, *]; done)), by ((simp +decide (disch := first | decide | omega) only [go_sem, *]; done)), by ((simp +decide (disch := first | decide | omega) only [go_sem, *]; done)), by ((simp +decide (disch := first | decide | omega) only [go_sem, *]; done)), i + 1, by simp +decide (disch := first | decide | omega) only [go_sem, *]; rfl, by omega, ?_, ?_, ?_, ?_, ?_, (HV.ow h.length 0 ((badsTo F i).length + 1)), ?_, ?_, ?_⟩ (by simp +decide (disch := first | decide | omega) only [go_sem, *]; omega)
      · simp; omega
      · exact hfr8 _ _ hb0 (by omega) (fun es e => by injection e with e; cases e)
      · exact hfr8 _ _ hb1 (by omega) (fun es e => by injection e with e; cases e)
      · refine hfr8 _ _ hrow (fun e => ?_) (fun es e => by injection e with e; cases e)
        rw [e, hx] at hrow; injection hrow with hrow; cases hrow
      · exact hN.fr3 hx hfr8
      · exact List.getElem?_set_self (by omega)
      · rw [badsTo, if_pos hb]
        have := hL1'.get 0 rfl
        refine own_keep this fun j hj => ?_
        rw [List.getElem?_set_ne fun e => ?_]
        · exact hj
        · rw [← e, hx8] at hj; injection hj with hj; cases hj
      · intro id n e
        injection e with e
        omega
    · refine loopK_normal ⟨by ((simp +decide (disch := first | decide | omega) only [go_sem, *]; done)), by ((simp +decide (disch := first | decide | omega) only [go_sem, *]; done)), by ((simp +decide (disch := first | decide | omega) only [go_sem, *]; done)), by ((simp +decide (disch := first | decide | omega) only [go_sem, *]; done)), by ((simp +decide (disch := first | decide | omega) only [go_sem, *]; done)), by ((simp +decide (disch := first | decide | omega) only [go_sem, *]; done)), by ((simp +decide (disch := first | decide | omega) only [go_sem, *]; done)), i + 1, by simp +decide (disch := first | decide | omega) only [go_sem, *]; rfl, by omega, hel, hb0, hb1, hrow, hN, x, hx, ?_, hxe⟩ (by simp +decide (disch := first | decide | omega) only [go_sem, *]; omega)
      rw [badsTo, hb]
      simpa using hox
    · omega
  · have hit : i = t.length := by omega
    subst hit
    have hbl := badsTo_len F t.length
    have hc := CallsH.sortOwn sorts sorts0 sz3 hox (by omega)
    repeat' (with_reducible first | refine WP.seq ?_ | refine WP.skip ?_ | refine WP.block ?_ | refine WP.exit ?_ | refine seqK_normal ?_ | refine seqK_exit ?_ | refine loopK_exit ?_ | refine blockK_here ?_ | (apply WP.regionE; (with_unfolding_all (simp +decide (disch := first | decide | omega) only [go_sem, *]; rfl))) | (apply WP.regionX; with_unfolding_all rfl; (with_unfolding_all (simp +decide (disch := first | decide | omega) only [go_sem, *]; rfl))) | (apply opsT.call; (with_unfolding_all (simp +decide (disch := first | decide | omega) only [go_sem, *]; rfl)); (focus (simp +decide (disch := first | decide | omega) only [go_sem, *]; done)); (with_unfolding_all (simp +decide (disch := first | decide | omega) only [go_sem, *]; rfl))) | (apply WP.condB; (simp +decide (disch := first | decide | omega) only [go_sem, *]; rfl); all_goals (intro hb; (first | rw [dlt_t] at hb | rw [dlt_f] at hb | rw [dle_t] at hb | rw [dle_f] at hb | rw [Bool.not_eq_true'] at hb | rw [Bool.not_eq_false'] at hb | skip))))
    · omega
    refine hc.mono ?_
    rintro r4 h5 ⟨rfl, hox5, hl5, hf5⟩
    clear hc
    have hni : ∀ j, j ≤ h3.length → ¬ j ∈ idsOf x := fun j hj => not_ids (k := h3.length + 1) hox (fun id n e => by have := hxe id n e; omega) (by omega)
    have hnk : ¬ k ∈ idsOf x := fun hm => by
      rcases hox with ⟨e1, _⟩ | ⟨id, e1, e2⟩
      · rw [e1] at hm; simp [idsOf] at hm
      · rw [e1] at hm
        have : k = id := by simpa [idsOf] using hm
        subst this
        rw [hrow] at e2; injection e2 with e2; cases e2
    have hb05 : h5[0]? = some (.row 25 [buC b]) := by rw [hf5 0 (hni 0 (by omega))]; exact hb0
    have hb15 : h5[1]? = some (.row 31 [[.sl true [], .sl true []]]) := by rw [hf5 1 (hni 1 (by omega))]; exact hb1
    have hrow5 : h5[k]? = some (.row 66 (eps L)) := by rw [hf5 k hnk]; exact hrow
    have hx5 : h5[h3.length]? = some (.row 31 [[.sl false (ints G), x]]) := by rw [hf5 _ (hni _ (Nat.le_refl _))]; exact hx
    have hN5 : NodesAt h5 L F := hN.fr3 hx fun j o hj hne hn => by
      rw [hf5 j fun hm => ?_]
      · exact hj
      · rcases hox with ⟨e1, _⟩ | ⟨id, e1, e2⟩
        · rw [e1] at hm; simp [idsOf] at hm
        · rw [e1] at hm
          have : j = id := by simpa [idsOf] using hm
          subst this
          rw [hj] at e2; injection e2 with e2
          exact hn _ e2
    clear hf5 hni hnk hb0 hb1 hrow hx hN hox
    repeat' (with_reducible first | refine WP.seq ?_ | refine seqK_normal ?_ | (apply WP.regionX; with_unfolding_all rfl; (with_unfolding_all (simp +decide (disch := first | decide | omega) only [go_sem, *]; rfl))) | (apply opsT.call; (with_unfolding_all (simp +decide (disch := first | decide | omega) only [go_sem, *]; rfl)); (focus (simp +decide (disch := first | decide | omega) only [go_sem, *]; done)); (with_unfolding_all (simp +decide (disch := first | decide | omega) only [go_sem, *]; rfl))) | (apply opsT.fin; (with_unfolding_all (simp +decide (disch := first | decide | omega) only [go_sem, *]; rfl))))
    have hor5 : OwnAt h5 (.ow k 0 (2 * t.length)) 66 (eps L) := by
      have := OwnAt.of_row hrow5
      rwa [eps_length, hlL] at this
    refine (tree_left L F _ h5 hN5 hor5 (by omega)).mono ?_
    rintro r5 h6 ⟨hk6, hp6, hge6⟩
    have hl56 : h5.length ≤ h6.length := hp6.len
    have hb06 : h6[0]? = some (.row 25 [buC b]) := by rw [hp6.at (by omega)]; exact hb05
    have hb16 : h6[1]? = some (.row 31 [[.sl true [], .sl true []]]) := by rw [hp6.at (by omega)]; exact hb15
    have hx6 : h6[h3.length]? = some (.row 31 [[.sl false (ints G), x]]) := by rw [hp6.at (List.getElem?_eq_some_iff.1 hx5).1]; exact hx5
    have hN6 : NodesAt h6 L F := hN5.keep (.pre hp6)
    have hox6 : OwnAt h6 x 3 (ints (sortI (badsTo F t.length))) := own_pre hox5 hp6
    clear hp6 hb05 hb15 hx5 hN5 hox5 hor5 hrow5
    rw [hlL] at hk6
    repeat' (with_reducible first | refine WP.seq ?_ | refine WP.block ?_ | refine seqK_normal ?_ | (apply WP.regionE; (with_unfolding_all (simp +decide (disch := first | decide | omega) only [go_sem, *]; rfl))) | (apply opsT.fin; (with_unfolding_all (simp +decide (disch := first | decide | omega) only [go_sem, *]; rfl))))
    clear g1 g45 g46 g47 hxe
    refine WP.loop (fun s h => s 7 = .ep 1 0 0 ∧ s 8 = r5 ∧ s 9 = .ep h3.length 0 0 ∧ s 12 = .mp h6.length ∧ s 72 = .sl false (nds t) ∧ s 73 = .int .i64 t.length ∧ ∃ i : Nat, s 74 = .int .i64 i ∧ i ≤ t.length ∧ Pre h6 h ∧ SetAt h h6.length (usedP (t.take i))) (fun s _ => t.length - (s 74).toInt.toNat)
      ⟨by ((simp +decide (disch := first | decide | omega) only [go_sem, *]; done)), by (rfl), by ((simp +decide (disch := first | decide | omega) only [go_sem, *]; done)), by (rfl), by (rfl), by (rfl), 0, by simp +decide (disch := first | decide | omega) only [go_sem, *]; rfl, by omega, ⟨_, rfl⟩, (SetAt.nil (h := h6)).congr fun u => by simp [usedP, memP]⟩ ?_
    clear g3 g7 g8 g9 s
    rintro s h ⟨g7, g8, g9, g12, g72, g73, i, g74, hi, hp, hs⟩
    by_cases hlt : i < t.length
    · have hul := hs.lt
      obtain ⟨o, hput, hput2⟩ := (hs.app [.row 43 [ndC (nth t i)]]).put (nth t i).name
      repeat' (with_reducible first | refine WP.seq ?_ | refine WP.skip ?_ | refine WP.block ?_ | refine WP.exit ?_ | refine seqK_normal ?_ | refine seqK_exit ?_ | refine loopK_exit ?_ | refine blockK_normal ?_ | refine blockK_here ?_ | (apply WP.regionE; (with_unfolding_all (simp +decide (disch := first | decide | omega) only [go_sem, *]; rfl))) | (apply WP.condB; (simp +decide (disch := first | decide | omega) only [go_sem, *]; rfl); all_goals (intro hb; (first | rw [dlt_t] at hb | rw [dlt_f] at hb | rw [dle_t] at hb | rw [dle_f] at hb | rw [Bool.not_eq_true'] at hb | rw [Bool.not_eq_false'] at hb | skip))))
      · refine loopK_normal ⟨by ((simp +decide (disch := first | decide | omega) only [go_sem, *]; done)), by ((simp +decide (disch := first | decide | omega) only [go_sem, *]; done)), by ((simp +decide (disch := first | decide | omega) only [go_sem, *]; done)), by ((simp +decide (disch := first | decide | omega) only [go_sem, *]; done)), by ((simp +decide (disch := first | decide | omega) only [go_sem, *]; done)), by ((simp +decide (disch := first | decide | omega) only [go_sem, *]; done)), i + 1, by simp +decide (disch := first | decide | omega) only [go_sem, *]; rfl, by omega, (hp.app _).set (Nat.le_refl _) _, ?_⟩ (by simp +decide (disch := first | decide | omega) only [go_sem, *]; omega)
        refine (hput2 _ (List.getElem?_set_self (by simp; omega))).congr fun u => ?_
        simp only [usedP]
        rw [take_nth hlt]
        simp [memP]
      · omega
    · have hit : i = t.length := by omega
      subst hit
      rw [List.take_length] at hs
      have hN7 : NodesAt h L F := hN6.keep (.pre hp)
      have hk7 : OwnAt h r5 66 (eps ((keptI F (2 * t.length)).map (nth L))) := own_pre hk6 hp
      have hb07 : h[0]? = some (.row 25 [buC b]) := by rw [hp.at (by omega)]; exact hb06
      have hb17 : h[1]? = some (.row 31 [[.sl true [], .sl true []]]) := by rw [hp.at (by omega)]; exact hb16
      have hx7 : h[h3.length]? = some (.row 31 [[.sl false (ints G), x]]) := by rw [hp.at (List.getElem?_eq_some_iff.1 hx6).1]; exact hx6
      have hox7 : OwnAt h x 3 (ints (sortI (badsTo F t.length))) := own_pre hox6 hp
      have hkl := keptI_len F (2 * t.length)
      have hM : ∀ u, usedP t u = true → u ≤ ((2 * b.next.length : Nat) : Int) := fun u hu => by
        simp only [usedP, memP, List.contains_iff_mem, List.mem_map] at hu
        obtain ⟨y, hy, rfl⟩ := hu
        obtain ⟨j, hj, rfl⟩ := List.getElem_of_mem hy
        have := (okN_nth.1 (hok j hj)).1
        unfold okH at this
        rw [nth_eq hj] at this
        omega
      have hI : ∀ i ∈ keptI F (2 * t.length), i < L.length := fun i hi => by have := (mem_keptI.1 hi).1; omega
      repeat' (with_reducible first | refine WP.seq ?_ | refine WP.exit ?_ | refine seqK_normal ?_ | refine seqK_exit ?_ | refine loopK_exit ?_ | refine blockK_here ?_ | (apply WP.regionE; (with_unfolding_all (simp +decide (disch := first | decide | omega) only [go_sem, *]; rfl))) | (apply WP.regionX; with_unfolding_all rfl; (with_unfolding_all (simp +decide (disch := first | decide | omega) only [go_sem, *]; rfl))) | (apply opsT.call; (with_unfolding_all (simp +decide (disch := first | decide | omega) only [go_sem, *]; rfl)); (focus (simp +decide (disch := first | decide | omega) only [go_sem, *]; done)); (with_unfolding_all (simp +decide (disch := first | decide | omega) only [go_sem, *]; rfl))) | (apply WP.condF; (focus (simp +decide (disch := first | decide | omega) only [go_sem, *]; done))))
      refine (tree_name L F (keptI F (2 * t.length)) (2 * b.next.length) (usedP t) h6.length r5 h hN7 hI hk7 hs hM (by omega) (by omega)).mono ?_
      rintro r9 h8 ⟨hN8, hl8, hf8⟩
      have hb08 := hf8 0 _ hb07 fun x hx => (list_not_node hN7 hb07 (by decide) x hx).1
      have hb18 := hf8 1 _ hb17 fun x hx => (list_not_node hN7 hb17 (by decide) x hx).1
      have hx8 := hf8 _ _ hx7 fun x hx => (list_not_node hN7 hx7 (by decide) x hx).1
      have hox8 : OwnAt h8 x 3 (ints (sortI (badsTo F t.length))) := own_keep hox7 fun j hj => hf8 j _ hj fun x hx => (list_not_node hN7 hj (by decide) x hx).1
      have hk8 : OwnAt h8 r5 66 (eps ((keptI F (2 * t.length)).map (nth L))) := own_keep hk7 fun j hj => hf8 j _ hj fun x hx => (list_not_node hN7 hj (by decide) x hx).1
      have hlF : F.length = 2 * t.length := by rw [← hN7.len]; exact hlL
      have hsame := nameTo_same (usedP t) (2 * b.next.length) F (keptI F (2 * t.length)) _ (Nat.le_refl _)
      obtain ⟨I, hIe⟩ : ∃ I, keptI F (2 * t.length) = I := ⟨_, rfl⟩
      rw [hIe] at hN8 hk8 hsame hI hkl
      obtain ⟨A2, hA2⟩ : ∃ A2, (nameTo (usedP t) (2 * b.next.length) F I I.length).1 = A2 := ⟨_, rfl⟩
      rw [hA2] at hN8 hsame
      clear hf8 hN7 hk7 hox7 hx7 hb07 hb17 hs hM hN6 hk6 hox6 hx6 hb06 hb16
      have hkS : keptS b t a = I := by rw [keptS, hF, hIe]
      have hnS : namedS b t a = A2 := by rw [namedS, hkS, hF, hA2]
      obtain ⟨O, hO⟩ : ∃ O, outS b t a = O := ⟨_, rfl⟩
      have hOl : O.length = I.length := by rw [← hO, outS, hkS, List.length_map]
      have hOn : ∀ i, i < I.length → nth O i = ⟨(nth A2 (nth I i)).name, parS I A2 (nth I i), elems b (nth A2 (nth I i)).st⟩ := fun i hi => by
        rw [← hO, outS, hkS, hnS, nth_eq (by simpa using hi), nth_eq hi, List.getElem_map]
      have hev : evS b t a = ⟨G, sortI (badsTo F t.length)⟩ := by rw [evS, hF, hG]
      by_cases hI0 : I.length = 0
      · have hI1 : I = [] := List.eq_nil_of_length_eq_zero hI0
        have hO1 : O = [] := List.eq_nil_of_length_eq_zero (by omega)
        subst hI1
        have e0 : ints (sortI (badsTo F t.length)) = ints (sortI (badsTo F t.length)) := rfl
        clear e0
        rcases hk8 with ⟨rfl, hnil⟩ | ⟨kk, rfl, hrow8⟩
        · repeat' (with_reducible first | refine WP.seq ?_ | refine WP.block ?_ | refine seqK_normal ?_ | (apply WP.regionE; (with_unfolding_all (simp +decide (disch := first | decide | omega) only [go_sem, *]; rfl))) | (apply opsT.fin; (with_unfolding_all (simp +decide (disch := first | decide | omega) only [go_sem, *]; rfl))))
          refine WP.loop (fun s h => s 7 = .ep 1 0 0 ∧ s 9 = .ep h3.length 0 0 ∧ s 15 = .ow h8.length 0 0 ∧ s 89 = .int .i64 0 ∧ s 90 = .int .i64 0 ∧ h = h8 ++ [.row 43 []]) (fun s _ => 0)
            ⟨by ((simp +decide (disch := first | decide | omega) only [go_sem, *]; done)), by ((simp +decide (disch := first | decide | omega) only [go_sem, *]; done)), by (rfl), by (rfl), by (rfl), rfl⟩ ?_
          clear g7 g8 g9 g12 g72 g73 g74 s
          rintro s h9 ⟨g7, g9, g15, g89, g90, rfl⟩
          have hx9 : (h8 ++ [HO.row 43 []])[h3.length]? = some (.row 31 [[.sl false (ints G), x]]) := by rw [List.getElem?_append_left (List.getElem?_eq_some_iff.1 hx8).1]; exact hx8
          have hb9 : (h8 ++ [HO.row 43 []])[1]? = some (.row 31 [[.sl true [], .sl true []]]) := by rw [List.getElem?_append_left (List.getElem?_eq_some_iff.1 hb18).1]; exact hb18
          have hliv : liveB (h8 ++ [HO.row 43 []]) 1 = true := by simp only [liveB, hb9, HO.live]
          have h8l : 1 < h8.length := (List.getElem?_eq_some_iff.1 hb18).1
          rcases hox8 with ⟨rfl, hbn⟩ | ⟨kx, rfl, hxr⟩
          · skip
            repeat' (with_reducible first | refine WP.seq ?_ | refine WP.exit ?_ | refine seqK_normal ?_ | refine seqK_exit ?_ | refine loopK_exit ?_ | refine blockK_here ?_ | (apply WP.regionE; (with_unfolding_all (simp +decide (disch := first | decide | omega) only [go_sem, *]; rfl))) | (apply WP.condF; (focus (simp +decide (disch := first | decide | omega) only [go_sem, *]; done))))
            refine WP.regionVX2 3 [1] mixed (by with_unfolding_all rfl) (by with_unfolding_all rfl) (by with_unfolding_all rfl) rfl (by with_unfolding_all rfl) ?_
            repeat' (with_reducible (apply opsV.fin; with_unfolding_all rfl; (with_unfolding_all (simp +decide (disch := first | decide | omega) only [go_sem, *]; rfl))))
            refine ⟨rfl, { x := .und, ws := [(1, .row 31 [[.sl false (ints G), .sl true []]])] }, ?e561, ?h561, ?g1161, ?g1261, ?g1361, ?g1461⟩
            case g1161 =>
              refine opE_store.trans ?_
              ((simp +decide (disch := first | decide | omega) only [go_sem, *]; done))
            case g1261 => simp [hliv]
            case g1361 =>
              simp +decide (disch := first | decide | omega) only [go_sem, *]
              rfl
            repeat' (with_reducible first | refine WP.ret ?_ | refine seqK_normal ?_)
            have hq1 : ((h8 ++ [HO.row 43 []]).set 1 (HO.row 31 [[.sl false (ints G), .sl true []]]))[1]? = some (HO.row 31 [[.sl false (ints G), .sl true []]]) := List.getElem?_set_self (by simp; omega)
            obtain ⟨y, hy1, hy2⟩ := rd_result (h := (h8 ++ [HO.row 43 []]).set 1 (HO.row 31 [[.sl false (ints G), .sl true []]])) (oid := h8.length) (m := 0) (O := []) (G := G) (B := sortI (badsTo F t.length)) (x := .sl true []) (by rw [List.getElem?_set_ne (by omega)]; simp [nds]) rfl (.inl ⟨rfl, hbn⟩)
            refine fnPost_ret (by simp +decide (disch := first | decide | omega) only [go_sem, *]) ⟨3, y, hy1, ?_⟩
            rw [hy2, hev, hO, hO1]; rfl
          · rw [ints_length] at *
            repeat' (with_reducible first | refine WP.seq ?_ | refine WP.exit ?_ | refine seqK_normal ?_ | refine seqK_exit ?_ | refine loopK_exit ?_ | refine blockK_here ?_ | (apply WP.regionE; (with_unfolding_all (simp +decide (disch := first | decide | omega) only [go_sem, *]; rfl))) | (apply WP.condF; (focus (simp +decide (disch := first | decide | omega) only [go_sem, *]; done))))
            refine WP.regionVX2 3 [1] mixed (by with_unfolding_all rfl) (by with_unfolding_all rfl) (by with_unfolding_all rfl) rfl (by with_unfolding_all rfl) ?_
            repeat' (with_reducible (apply opsV.fin; with_unfolding_all rfl; (with_unfolding_all (simp +decide (disch := first | decide | omega) only [go_sem, *]; rfl))))
            refine ⟨rfl, { x := .und, ws := [(1, .row 31 [[.sl false (ints G), (.ow kx 0 (sortI (badsTo F t.length)).length)]])] }, ?e562, ?h562, ?g1162, ?g1262, ?g1362, ?g1462⟩
            case g1162 =>
              refine opE_store.trans ?_
              ((simp +decide (disch := first | decide | omega) only [go_sem, *]; done))
            case g1262 => simp [hliv]
            case g1362 =>
              simp +decide (disch := first | decide | omega) only [go_sem, *]
              rfl
            repeat' (with_reducible first | refine WP.ret ?_ | refine seqK_normal ?_)
            have hq1 : ((h8 ++ [HO.row 43 []]).set 1 (HO.row 31 [[.sl false (ints G), (.ow kx 0 (sortI (badsTo F t.length)).length)]]))[1]? = some (HO.row 31 [[.sl false (ints G), (.ow kx 0 (sortI (badsTo F t.length)).length)]]) := List.getElem?_set_self (by simp; omega)
            obtain ⟨y, hy1, hy2⟩ := rd_result (h := (h8 ++ [HO.row 43 []]).set 1 (HO.row 31 [[.sl false (ints G), (.ow kx 0 (sortI (badsTo F t.length)).length)]])) (oid := h8.length) (m := 0) (O := []) (G := G) (B := sortI (badsTo F t.length)) (x := (.ow kx 0 (sortI (badsTo F t.length)).length)) (by rw [List.getElem?_set_ne (by omega)]; simp [nds]) rfl (.inr ⟨kx, by rw [ints_length], by rw [List.getElem?_set_ne (by (intro e; rw [← e, hb18] at hxr; injection hxr with hxr; cases hxr)), List.getElem?_append_left (List.getElem?_eq_some_iff.1 hxr).1]; exact hxr⟩)
            refine fnPost_ret (by simp +decide (disch := first | decide | omega) only [go_sem, *]) ⟨3, y, hy1, ?_⟩
            rw [hy2, hev, hO, hO1]; rfl
        · repeat' (with_reducible first | refine WP.seq ?_ | refine WP.block ?_ | refine seqK_normal ?_ | (apply WP.regionE; (with_unfolding_all (simp +decide (disch := first | decide | omega) only [go_sem, *]; rfl))) | (apply opsT.fin; (with_unfolding_all (simp +decide (disch := first | decide | omega) only [go_sem, *]; rfl))))
          refine WP.loop (fun s h => s 7 = .ep 1 0 0 ∧ s 9 = .ep h3.length 0 0 ∧ s 15 = .ow h8.length 0 0 ∧ s 89 = .int .i64 0 ∧ s 90 = .int .i64 0 ∧ h = h8 ++ [.row 43 []]) (fun s _ => 0)
            ⟨by ((simp +decide (disch := first | decide | omega) only [go_sem, *]; done)), by ((simp +decide (disch := first | decide | omega) only [go_sem, *]; done)), by (rfl), by (rfl), by (rfl), rfl⟩ ?_
          clear g7 g8 g9 g12 g72 g73 g74 s
          rintro s h9 ⟨g7, g9, g15, g89, g90, rfl⟩
          have hx9 : (h8 ++ [HO.row 43 []])[h3.length]? = some (.row 31 [[.sl false (ints G), x]]) := by rw [List.getElem?_append_left (List.getElem?_eq_some_iff.1 hx8).1]; exact hx8
          have hb9 : (h8 ++ [HO.row 43 []])[1]? = some (.row 31 [[.sl true [], .sl true []]]) := by rw [List.getElem?_append_left (List.getElem?_eq_some_iff.1 hb18).1]; exact hb18
          have hliv : liveB (h8 ++ [HO.row 43 []]) 1 = true := by simp only [liveB, hb9, HO.live]
          have h8l : 1 < h8.length := (List.getElem?_eq_some_iff.1 hb18).1
          rcases hox8 with ⟨rfl, hbn⟩ | ⟨kx, rfl, hxr⟩
          · skip
            repeat' (with_reducible first | refine WP.seq ?_ | refine WP.exit ?_ | refine seqK_normal ?_ | refine seqK_exit ?_ | refine loopK_exit ?_ | refine blockK_here ?_ | (apply WP.regionE; (with_unfolding_all (simp +decide (disch := first | decide | omega) only [go_sem, *]; rfl))) | (apply WP.condF; (focus (simp +decide (disch := first | decide | omega) only [go_sem, *]; done))))
            refine WP.regionVX2 3 [1] mixed (by with_unfolding_all rfl) (by with_unfolding_all rfl) (by with_unfolding_all rfl) rfl (by with_unfolding_all rfl) ?_
            repeat' (with_reducible (apply opsV.fin; with_unfolding_all rfl; (with_unfolding_all (simp +decide (disch := first | decide | omega) only [go_sem, *]; rfl))))
            refine ⟨rfl, { x := .und, ws := [(1, .row 31 [[.sl false (ints G), .sl true []]])] }, ?e571, ?h571, ?g1171, ?g1271, ?g1371, ?g1471⟩
            case g1171 =>
              refine opE_store.trans ?_
              ((simp +decide (disch := first | decide | omega) only [go_sem, *]; done))
            case g1271 => simp [hliv]
            case g1371 =>
              simp +decide (disch := first | decide | omega) only [go_sem, *]
              rfl
            repeat' (with_reducible first | refine WP.ret ?_ | refine seqK_normal ?_)
            have hq1 : ((h8 ++ [HO.row 43 []]).set 1 (HO.row 31 [[.sl false (ints G), .sl true []]]))[1]? = some (HO.row 31 [[.sl false (ints G), .sl true []]]) := List.getElem?_set_self (by simp; omega)
            obtain ⟨y, hy1, hy2⟩ := rd_result (h := (h8 ++ [HO.row 43 []]).set 1 (HO.row 31 [[.sl false (ints G), .sl true []]])) (oid := h8.length) (m := 0) (O := []) (G := G) (B := sortI (badsTo F t.length)) (x := .sl true []) (by rw [List.getElem?_set_ne (by omega)]; simp [nds]) rfl (.inl ⟨rfl, hbn⟩)
            refine fnPost_ret (by simp +decide (disch := first | decide | omega) only [go_sem, *]) ⟨3, y, hy1, ?_⟩
            rw [hy2, hev, hO, hO1]; rfl
          · rw [ints_length] at *
            repeat' (with_reducible first | refine WP.seq ?_ | refine WP.exit ?_ | refine seqK_normal ?_ | refine seqK_exit ?_ | refine loopK_exit ?_ | refine blockK_here ?_ | (apply WP.regionE; (with_unfolding_all (simp +decide (disch := first | decide | omega) only [go_sem, *]; rfl))) | (apply WP.condF; (focus (simp +decide (disch := first | decide | omega) only [go_sem, *]; done))))
            refine WP.regionVX2 3 [1] mixed (by with_unfolding_all rfl) (by with_unfolding_all rfl) (by with_unfolding_all rfl) rfl (by with_unfolding_all rfl) ?_
            repeat' (with_reducible (apply opsV.fin; with_unfolding_all rfl; (with_unfolding_all (simp +decide (disch := first | decide | omega) only [go_sem, *]; rfl))))
            refine ⟨rfl, { x := .und, ws := [(1, .row 31 [[.sl false (ints G), (.ow kx 0 (sortI (badsTo F t.length)).length)]])] }, ?e572, ?h572, ?g1172, ?g1272, ?g1372, ?g1472⟩
            case g1172 =>
              refine opE_store.trans ?_
              ((simp +decide (disch := first | decide | omega) only [go_sem, *]; done))
            case g1272 => simp [hliv]
            case g1372 =>
              simp +decide (disch := first | decide | omega) only [go_sem, *]
              rfl
            repeat' (with_reducible first | refine WP.ret ?_ | refine seqK_normal ?_)
            have hq1 : ((h8 ++ [HO.row 43 []]).set 1 (HO.row 31 [[.sl false (ints G), (.ow kx 0 (sortI (badsTo F t.length)).length)]]))[1]? = some (HO.row 31 [[.sl false (ints G), (.ow kx 0 (sortI (badsTo F t.length)).length)]]) := List.getElem?_set_self (by simp; omega)
            obtain ⟨y, hy1, hy2⟩ := rd_result (h := (h8 ++ [HO.row 43 []]).set 1 (HO.row 31 [[.sl false (ints G), (.ow kx 0 (sortI (badsTo F t.length)).length)]])) (oid := h8.length) (m := 0) (O := []) (G := G) (B := sortI (badsTo F t.length)) (x := (.ow kx 0 (sortI (badsTo F t.length)).length)) (by rw [List.getElem?_set_ne (by omega)]; simp [nds]) rfl (.inr ⟨kx, by rw [ints_length], by rw [List.getElem?_set_ne (by (intro e; rw [← e, hb18] at hxr; injection hxr with hxr; cases hxr)), List.getElem?_append_left (List.getElem?_eq_some_iff.1 hxr).1]; exact hxr⟩)
            refine fnPost_ret (by simp +decide (disch := first | decide | omega) only [go_sem, *]) ⟨3, y, hy1, ?_⟩
            rw [hy2, hev, hO, hO1]; rfl
      rcases hk8 with ⟨rfl, hnil⟩ | ⟨kk, rfl, hrow8⟩
      · exfalso
        have := congrArg List.length hnil
        rw [eps_length, List.length_map, List.length_nil] at this
        omega
      rw [eps_length, List.length_map] at g8 ⊢
      repeat' (with_reducible first | refine WP.seq ?_ | refine WP.block ?_ | refine seqK_normal ?_ | (apply WP.regionE; (with_unfolding_all (simp +decide (disch := first | decide | omega) only [go_sem, *]; rfl))) | (apply opsT.fin; (with_unfolding_all (simp +decide (disch := first | decide | omega) only [go_sem, *]; rfl))))
      refine WP.loop (fun s h => s 7 = .ep 1 0 0 ∧ s 8 = .ow kk 0 I.length ∧ s 9 = .ep h3.length 0 0 ∧ s 15 = .ow h8.length 0 I.length ∧ s 88 = .ow kk 0 I.length ∧ s 89 = .int .i64 I.length ∧ ∃ i : Nat, s 90 = .int .i64 i ∧ i ≤ I.length ∧ h = h8 ++ [.row 43 (partR O i)]) (fun s _ => I.length - (s 90).toInt.toNat)
        ⟨by ((simp +decide (disch := first | decide | omega) only [go_sem, *]; done)), by ((simp +decide (disch := first | decide | omega) only [go_sem, *]; done)), by ((simp +decide (disch := first | decide | omega) only [go_sem, *]; done)), by (rfl), by (rfl), by (rfl), 0, by simp +decide (disch := first | decide | omega) only [go_sem, *]; rfl, by omega, by rw [partR_zero, hOl]; rfl⟩ ?_
      clear g7 g8 g9 g12 g72 g73 g74 s
      rintro s h9 ⟨g7, g8, g9, g15, g88, g89, i, g90, hi, rfl⟩
      have hkk : kk < h8.length := (List.getElem?_eq_some_iff.1 hrow8).1
      by_cases hlt : i < I.length
      · have hiL := hI _ (nth_mem hlt)
        have hm : nth (I.map (nth L)) i = nth L (nth I i) := by rw [nth_eq (by simpa using hlt), nth_eq hlt]; simp
        have heps : (eps (I.map (nth L)))[i]? = some [.ep (nth L (nth I i)).id 0 0] := by rw [eps_nth (by simpa using hlt), hm]
        clear hm
        have hNc : NodesAt (h8 ++ [HO.row 43 (partR O i)]) L A2 := hN8.keep (.pre ⟨_, rfl⟩)
        obtain ⟨hn1, hn2, hn3⟩ := hNc.node _ hiL
        unfold nodeRow at hn1
        have hrowc : (h8 ++ [HO.row 43 (partR O i)])[kk]? = some (.row 66 (eps (I.map (nth L)))) := by rw [List.getElem?_append_left hkk]; exact hrow8
        have hRi := partR_get (O := O) (i := i) (by omega)
        have hOi := hOn i hlt
        have hs2 := hsame (nth I i) (by omega)
        have hin2 : inB b (nth A2 (nth I i)).st := by rw [hs2.2.1]; exact (hinF _ (by omega)).1
        have hup2 : -1 ≤ (nth A2 (nth I i)).up ∧ (nth A2 (nth I i)).up < nth I i := by rw [hs2.1]; exact (hinF _ (by omega)).2
        have hset := partR_set (O := O) (i := i) (by omega)
        unfold zNd at hRi
        rw [hOi] at hset
        clear hs2 hsame hOi
        have hlv : liveB (h8 ++ [HO.row 43 (partR O i)]) h8.length = true := by simp [liveB, HO.live]
        repeat' (with_reducible first | refine WP.seq ?_ | refine WP.skip ?_ | refine WP.block ?_ | refine WP.exit ?_ | refine seqK_normal ?_ | refine seqK_exit ?_ | refine loopK_exit ?_ | refine blockK_here ?_ | (apply WP.regionE; (with_unfolding_all (simp +decide (disch := first | decide | omega) only [go_sem, *]; rfl))) | (apply WP.condB; (simp +decide (disch := first | decide | omega) only [go_sem, *]; rfl); all_goals (intro hb; (first | rw [dlt_t] at hb | rw [dlt_f] at hb | rw [dle_t] at hb | rw [dle_f] at hb | rw [Bool.not_eq_true'] at hb | rw [Bool.not_eq_false'] at hb | skip))))
        · refine joinR (fun s' h' => s' 7 = .ep 1 0 0 ∧ s' 8 = .ow kk 0 I.length ∧ s' 9 = .ep h3.length 0 0 ∧ s' 15 = .ow h8.length 0 I.length ∧ s' 16 = .int .i64 i ∧ s' 17 = .ep (nth L (nth I i)).id 0 0 ∧ s' 88 = .ow kk 0 I.length ∧ s' 89 = .int .i64 I.length ∧ s' 90 = .int .i64 i ∧
            h' = h8 ++ [.row 43 ((partR O i).set i (ndC ⟨(nth A2 (nth I i)).name, -1, elems b (nth A2 (nth I i)).st⟩))]) ?_ ?_
          · refine WP.regionVX2 14 [h8.length] mixed (by with_unfolding_all rfl) (by with_unfolding_all rfl) (by with_unfolding_all rfl) rfl (by with_unfolding_all rfl) ?_
            repeat' (with_reducible (apply opsV.moreX; with_unfolding_all rfl; with_unfolding_all rfl; (with_unfolding_all (simp +decide (disch := first | decide | omega) only [go_sem, *]; rfl))))
            refine opsV.callF (g := 40) (fs := []) (cs := []) (xs := [.mp (nth L (nth I i)).sid]) (v := .sl false (ints (elems b (nth A2 (nth I i)).st))) ?b1 en40 ?b2 ?b3 ?_
            case b1 => (rfl)
            case b2 => (rfl)
            case b3 =>
              intro h' hh'
              exact tree_listF b _ h' _ (hn2.hle hh') hb3 hin2
            repeat' (with_reducible (apply opsV.fin; with_unfolding_all rfl; (with_unfolding_all (simp +decide (disch := first | decide | omega) only [go_sem, *]; rfl))))
            refine ⟨rfl, { x := .und, ws := [(h8.length, .row 43 ((partR O i).set i (ndC ⟨(nth A2 (nth I i)).name, -1, elems b (nth A2 (nth I i)).st⟩)))] }, ?e1, ?h1, ?g1, ?g2, ?g3, ?g4⟩
            case g1 =>
              refine opE_store.trans ?_
              simp only [ndC]
              ((simp +decide (disch := first | decide | omega) only [go_sem, *]; done))
            case g2 => simp [hlv]
            case g3 =>
              simp +decide (disch := first | decide | omega) only [go_sem, *]
              rfl
            exact ⟨rfl, by ((simp +decide (disch := first | decide | omega) only [go_sem, *]; done)), by ((simp +decide (disch := first | decide | omega) only [go_sem, *]; done)), by ((simp +decide (disch := first | decide | omega) only [go_sem, *]; done)), by ((simp +decide (disch := first | decide | omega) only [go_sem, *]; done)), by (rfl), by (rfl), by ((simp +decide (disch := first | decide | omega) only [go_sem, *]; done)), by ((simp +decide (disch := first | decide | omega) only [go_sem, *]; done)), by ((simp +decide (disch := first | decide | omega) only [go_sem, *]; done)), by first | rfl | (simp; done)⟩
          · rintro s' h' ⟨k7, k8, k9, k15, k16, k17, k88, k89, k90, rfl⟩
            clear hn1 hn2 hn3 hNc hrowc hlv hRi
            have hRl : i < (partR O i).length := by
              have := partR_get (O := O) (i := i) (by omega)
              exact (List.getElem?_eq_some_iff.1 this).1
            obtain ⟨c0, hc0⟩ : ∃ c0, c0 = ndC ⟨(nth A2 (nth I i)).name, -1, elems b (nth A2 (nth I i)).st⟩ := ⟨_, rfl⟩
            have hcell : ((partR O i).set i (ndC ⟨(nth A2 (nth I i)).name, -1, elems b (nth A2 (nth I i)).st⟩))[i]? = some (ndC ⟨(nth A2 (nth I i)).name, -1, elems b (nth A2 (nth I i)).st⟩) := List.getElem?_set_self hRl
            have hNd : NodesAt (h8 ++ [HO.row 43 ((partR O i).set i (ndC ⟨(nth A2 (nth I i)).name, -1, elems b (nth A2 (nth I i)).st⟩))]) L A2 := hN8.keep (.pre ⟨_, rfl⟩)
            have hrowd : (h8 ++ [HO.row 43 ((partR O i).set i (ndC ⟨(nth A2 (nth I i)).name, -1, elems b (nth A2 (nth I i)).st⟩))])[kk]? = some (.row 66 (eps (I.map (nth L)))) := by rw [List.getElem?_append_left hkk]; exact hrow8
            have hn1 := (hNd.node _ hiL).1
            unfold nodeRow at hn1
            by_cases hneg : (nth A2 (nth I i)).up < 0
            · have huv : upV L (nth A2 (nth I i)).up = .nul (.pointer none) := if_pos hneg
              rw [huv] at hn1
              rw [parS, if_pos hneg] at hset
              clear hcell
              rw [hset] at hn1 hNd hrowd ⊢
              clear hset
              repeat' (with_reducible first | refine WP.seq ?_ | refine WP.skip ?_ | refine seqK_normal ?_ | refine blockK_normal ?_ | (apply WP.regionE; (with_unfolding_all (simp +decide (disch := first | decide | omega) only [go_sem, *]; rfl))) | (apply WP.condF; (focus (simp +decide (disch := first | decide | omega) only [go_sem, *]; done))))
              exact loopK_normal ⟨by ((simp +decide (disch := first | decide | omega) only [go_sem, *]; done)), by ((simp +decide (disch := first | decide | omega) only [go_sem, *]; done)), by ((simp +decide (disch := first | decide | omega) only [go_sem, *]; done)), by ((simp +decide (disch := first | decide | omega) only [go_sem, *]; done)), by ((simp +decide (disch := first | decide | omega) only [go_sem, *]; done)), by ((simp +decide (disch := first | decide | omega) only [go_sem, *]; done)), i + 1, by simp +decide (disch := first | decide | omega) only [go_sem, *]; rfl, by omega, rfl⟩ (by simp +decide (disch := first | decide | omega) only [go_sem, *]; omega)
            · have huv : upV L (nth A2 (nth I i)).up = .ep (nth L (nth A2 (nth I i)).up.toNat).id 0 0 := if_neg hneg
              rw [huv] at hn1
              rw [parS, if_neg hneg] at hset
              have huL : (nth A2 (nth I i)).up.toNat < L.length := by omega
              have hix := go_IndexP (I.map (nth L)) (nth L (nth A2 (nth I i)).up.toNat) (.ow kk 0 I.length) _ (by have := OwnAt.of_row hrowd; rwa [eps_length, List.length_map] at this) (fun y hy => by
                obtain ⟨j, hj, rfl⟩ := List.mem_map.1 hy
                exact node_live hNd (hI j hj)) (node_live hNd huL) (by rw [List.length_map]; omega)
              rw [idxP_eq hNd hI huL] at hix
              repeat' (with_reducible first | refine WP.seq ?_ | refine seqK_normal ?_ | (apply WP.regionE; (with_unfolding_all (simp +decide (disch := first | decide | omega) only [go_sem, *]; rfl))) | (apply WP.regionX; with_unfolding_all rfl; (with_unfolding_all (simp +decide (disch := first | decide | omega) only [go_sem, *]; rfl))) | (apply opsT.call; (with_unfolding_all (simp +decide (disch := first | decide | omega) only [go_sem, *]; rfl)); (focus (simp +decide (disch := first | decide | omega) only [go_sem, *]; done)); (with_unfolding_all (simp +decide (disch := first | decide | omega) only [go_sem, *]; rfl))) | (apply WP.condT; (focus (simp +decide (disch := first | decide | omega) only [go_sem, *]; done))))
              refine hix.mono ?_
              rintro r10 h10 ⟨rfl, rfl⟩
              clear hix
              repeat' (with_reducible first | refine seqK_normal ?_ | refine blockK_normal ?_ | (apply WP.regionE; (with_unfolding_all (simp +decide (disch := first | decide | omega) only [go_sem, *]; rfl))) | (apply opsT.fin; (with_unfolding_all (simp +decide (disch := first | decide | omega) only [go_sem, *]; rfl))))
              refine loopK_normal ⟨by ((simp +decide (disch := first | decide | omega) only [go_sem, *]; done)), by ((simp +decide (disch := first | decide | omega) only [go_sem, *]; done)), by ((simp +decide (disch := first | decide | omega) only [go_sem, *]; done)), by ((simp +decide (disch := first | decide | omega) only [go_sem, *]; done)), by ((simp +decide (disch := first | decide | omega) only [go_sem, *]; done)), by ((simp +decide (disch := first | decide | omega) only [go_sem, *]; done)), i + 1, by simp +decide (disch := first | decide | omega) only [go_sem, *]; rfl, by omega, ?_⟩ (by simp +decide (disch := first | decide | omega) only [go_sem, *]; omega)
              rw [← hset]
              simp [ndC]
        · omega
      · have hit : i = I.length := by omega
        subst hit
        have hx9 : (h8 ++ [HO.row 43 (partR O I.length)])[h3.length]? = some (.row 31 [[.sl false (ints G), x]]) := by rw [List.getElem?_append_left (List.getElem?_eq_some_iff.1 hx8).1]; exact hx8
        have hb9 : (h8 ++ [HO.row 43 (partR O I.length)])[1]? = some (.row 31 [[.sl true [], .sl true []]]) := by rw [List.getElem?_append_left (List.getElem?_eq_some_iff.1 hb18).1]; exact hb18
        have hliv : liveB (h8 ++ [HO.row 43 (partR O I.length)]) 1 = true := by simp only [liveB, hb9, HO.live]
        have h8l : 1 < h8.length := (List.getElem?_eq_some_iff.1 hb18).1
        rcases hox8 with ⟨rfl, hbn⟩ | ⟨kx, rfl, hxr⟩
        · skip
          repeat' (with_reducible first | refine WP.seq ?_ | refine WP.skip ?_ | refine WP.block ?_ | refine WP.exit ?_ | refine seqK_normal ?_ | refine seqK_exit ?_ | refine loopK_exit ?_ | refine blockK_here ?_ | (apply WP.regionE; (with_unfolding_all (simp +decide (disch := first | decide | omega) only [go_sem, *]; rfl))) | (apply WP.condB; (simp +decide (disch := first | decide | omega) only [go_sem, *]; rfl); all_goals (intro hb; (first | rw [dlt_t] at hb | rw [dlt_f] at hb | rw [dle_t] at hb | rw [dle_f] at hb | rw [Bool.not_eq_true'] at hb | rw [Bool.not_eq_false'] at hb | skip))))
          · omega
          refine WP.regionVX2 3 [1] mixed (by with_unfolding_all rfl) (by with_unfolding_all rfl) (by with_unfolding_all rfl) rfl (by with_unfolding_all rfl) ?_
          repeat' (with_reducible (apply opsV.fin; with_unfolding_all rfl; (with_unfolding_all (simp +decide (disch := first | decide | omega) only [go_sem, *]; rfl))))
          refine ⟨rfl, { x := .und, ws := [(1, .row 31 [[.sl false (ints G), .sl true []]])] }, ?e51, ?h51, ?g111, ?g121, ?g131, ?g141⟩
          case g111 =>
            refine opE_store.trans ?_
            ((simp +decide (disch := first | decide | omega) only [go_sem, *]; done))
          case g121 => simp [hliv]
          case g131 =>
            simp +decide (disch := first | decide | omega) only [go_sem, *]
            rfl
          repeat' (with_reducible first | refine WP.ret ?_ | refine seqK_normal ?_)
          have hq1 : ((h8 ++ [HO.row 43 (partR O I.length)]).set 1 (HO.row 31 [[.sl false (ints G), .sl true []]]))[1]? = some (HO.row 31 [[.sl false (ints G), .sl true []]]) := List.getElem?_set_self (by simp; omega)
          obtain ⟨y, hy1, hy2⟩ := rd_result (h := (h8 ++ [HO.row 43 (partR O I.length)]).set 1 (HO.row 31 [[.sl false (ints G), .sl true []]])) (oid := h8.length) (m := I.length) (O := O) (G := G) (B := sortI (badsTo F t.length)) (x := .sl true []) (by rw [List.getElem?_set_ne (by omega), ← hOl, partR_full]; simp) hOl.symm (.inl ⟨rfl, hbn⟩)
          refine fnPost_ret (by simp +decide (disch := first | decide | omega) only [go_sem, *]) ⟨3, y, hy1, ?_⟩
          rw [hy2, hO, hev]; rfl
        · rw [ints_length] at *
          repeat' (with_reducible first | refine WP.seq ?_ | refine WP.skip ?_ | refine WP.block ?_ | refine WP.exit ?_ | refine seqK_normal ?_ | refine seqK_exit ?_ | refine loopK_exit ?_ | refine blockK_here ?_ | (apply WP.regionE; (with_unfolding_all (simp +decide (disch := first | decide | omega) only [go_sem, *]; rfl))) | (apply WP.condB; (simp +decide (disch := first | decide | omega) only [go_sem, *]; rfl); all_goals (intro hb; (first | rw [dlt_t] at hb | rw [dlt_f] at hb | rw [dle_t] at hb | rw [dle_f] at hb | rw [Bool.not_eq_true'] at hb | rw [Bool.not_eq_false'] at hb | skip))))
          · omega
          refine WP.regionVX2 3 [1] mixed (by with_unfolding_all rfl) (by with_unfolding_all rfl) (by with_unfolding_all rfl) rfl (by with_unfolding_all rfl) ?_
          repeat' (with_reducible (apply opsV.fin; with_unfolding_all rfl; (with_unfolding_all (simp +decide (disch := first | decide | omega) only [go_sem, *]; rfl))))
          refine ⟨rfl, { x := .und, ws := [(1, .row 31 [[.sl false (ints G), (.ow kx 0 (sortI (badsTo F t.length)).length)]])] }, ?e52, ?h52, ?g112, ?g122, ?g132, ?g142⟩
          case g112 =>
            refine opE_store.trans ?_
            ((simp +decide (disch := first | decide | omega) only [go_sem, *]; done))
          case g122 => simp [hliv]
          case g132 =>
            simp +decide (disch := first | decide | omega) only [go_sem, *]
            rfl
          repeat' (with_reducible first | refine WP.ret ?_ | refine seqK_normal ?_)
          have hq1 : ((h8 ++ [HO.row 43 (partR O I.length)]).set 1 (HO.row 31 [[.sl false (ints G), (.ow kx 0 (sortI (badsTo F t.length)).length)]]))[1]? = some (HO.row 31 [[.sl false (ints G), (.ow kx 0 (sortI (badsTo F t.length)).length)]]) := List.getElem?_set_self (by simp; omega)
          obtain ⟨y, hy1, hy2⟩ := rd_result (h := (h8 ++ [HO.row 43 (partR O I.length)]).set 1 (HO.row 31 [[.sl false (ints G), (.ow kx 0 (sortI (badsTo F t.length)).length)]])) (oid := h8.length) (m := I.length) (O := O) (G := G) (B := sortI (badsTo F t.length)) (x := (.ow kx 0 (sortI (badsTo F t.length)).length)) (by rw [List.getElem?_set_ne (by omega), ← hOl, partR_full]; simp) hOl.symm (.inr ⟨kx, by rw [ints_length], by rw [List.getElem?_set_ne (by (intro e; rw [← e, hb18] at hxr; injection hxr with hxr; cases hxr)), List.getElem?_append_left (List.getElem?_eq_some_iff.1 hxr).1]; exact hxr⟩)
          refine fnPost_ret (by simp +decide (disch := first | decide | omega) only [go_sem, *]) ⟨3, y, hy1, ?_⟩
          rw [hy2, hO, hev]; rfl

end Go.Proofs.Ytonhbeapffiibaa

