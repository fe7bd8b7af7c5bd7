/-
  Chapter 16: the statement on the runs behind good names: the walk.
-/
import Derived.Test.YtonhbeapffiibaaLawMLawR
import Derived.Test.YtonhbeapffiibaaLawSW
namespace Go.Proofs.Ytonhbeapffiibaa
open Go.HL

def thV (l : List Int) : HV := if l = [] then .sl true [] else .sl false (ints l)
def thR (th : List (List Int)) : List (List HV) := th.map fun l => [thV l]

theorem thR_length (th : List (List Int)) : (thR th).length = th.length := by simp [thR]
theorem thR_get {th : List (List Int)} {k : Nat} (h : k < th.length) : (thR th)[k]? = some [thV (nth th k)] := nth_map (fun l => [thV l]) h
theorem thR_set (th : List (List Int)) (k : Nat) (l : List Int) : (thR th).set k [thV l] = thR (th.set k l) := by simp [thR, List.map_set]
theorem thR_rep (n : Nat) : thR (List.replicate n []) = List.replicate n [.sl true []] := by simp [thR, thV]
theorem thV_nil : thV [] = .sl true [] := rfl
theorem thV_some {l : List Int} (h : l ≠ []) : thV l = .sl false (ints l) := if_neg h
attribute [go_sem] thR_length Bool.false_and

theorem seg_ints (w : List Int) (s e : Nat) : ((ints w).drop s).take (e - s) = ints (seg w s e) := by simp [ints, seg]

theorem seg_in {w : List Int} {n : Int} {s e : Nat} (hw : ∀ i, i < w.length → 0 ≤ nth w i ∧ nth w i < n) : ∀ i, i < (seg w s e).length → 0 ≤ nth (seg w s e) i ∧ nth (seg w s e) i < n := fun i hi => by
  have hm := nth_mem hi
  have : nth (seg w s e) i ∈ w := List.mem_of_mem_drop (List.mem_of_mem_take hm)
  obtain ⟨j, hj, e⟩ := List.getElem_of_mem this
  have := hw j hj
  rw [nth_eq hj, e] at this
  exact this
theorem seg_len (w : List Int) (s e : Nat) : (seg w s e).length ≤ w.length := by simp [seg]; omega

theorem runT_inv0 (b : Bu) (w : List Int) (t : List Nd) : RunInv b w 0 t (List.replicate (2 * b.next.length + 1) []) (List.replicate (2 * b.next.length + 1) 0) := by
  refine ⟨by simp, by simp, fun n hn h => ?_⟩
  exfalso
  simp only [List.length_replicate] at hn
  rw [nth_eq (by simpa using hn)] at h
  simp at h

theorem x_ne {b : Bu} {t : List Nd} {a : Int} (hv : validT b t = true) {k : Nat} (hk : k < (keptS b t a).length) : (nth (outS b t a) k).set ≠ [] := by
  rw [x_set hk]
  intro e
  have := (kept_facts hv (nth_mem hk)).1
  unfold cnt at this
  rw [e] at this
  exact this rfl

theorem opE_indexAddr {own : Bool} {ρ : Operand → HV} {h : Hp} {nid : Nat} {t : TypeId} {a i : Operand} : opE pg own ρ h nid (.indexAddr t a i) = (indexAddrH pg.P h t (ρ a) (ρ i)).map fun x => { x := x } := rfl
theorem opE_alloc {X : PG} {own : Bool} {ρ : Operand → HV} {h : Hp} {nid : Nat} {t : TypeId} : opE X own ρ h nid (.alloc t) = match zeroH X.P t with | some z => boxH X.P t nid z | none => none := rfl

theorem opsD_callP {C : Cx} {ops : Array Oper} {e : Env} {h : Hp} {A W : List (List Nat)} {Q : Env → Hp → Prop} {l rest : List Oper} {i : Nat} {nw nw' : List (List Nat)} {h1 : Hp} {dst : Option Tmp} {f : Operand} {args : Array Operand} {ts : Array TypeId} {ty : TypeId} {pos : String} {after : Array Edge} {gd : Option (Nat × Bool)} {g : FuncId} {xs : List HV} {v : HV} (M : List Nat)
    (hl : l = ⟨dst, .call ⟨.value f, args, ts⟩, ty, pos, after, gd⟩ :: rest) (hM : dmask (unordAt A ops.size i) i W nw = M) (hm : mask M h = h1) (hw : wantH e ops ⟨dst, .call ⟨.value f, args, ts⟩, ty, pos, after, gd⟩ = some true) (hf : ev pg e f = .fn (.func g) [] []) (hen : entersH pg.P g = true)
    (hx : args.toList.map (ev pg e) = xs) (hfr : HV.freeL xs = true) (hP : CallsP pg g xs (fun r => r = v)) (hn : nw ++ [[]] = nw') (hk : opsD pg C ops A W Q rest (i + 1) nw' (putE C.N e dst v) h) : opsD pg C ops A W Q l i nw e h := by
  subst hl; subst hM; subst hm; subst hn; subst hx
  simp only [opsD]
  rw [hw]
  simp only [stepD, hf]
  refine ⟨hen, v, [], fun h' hh' => ?_, rfl, ?_⟩
  · rw [List.nil_append, List.append_nil]
    exact hP.call [] 1 (rdL_free 1 _ hfr) fun r hr => ⟨hr, by rw [goneF_nil]; rfl⟩
  · have : newIds h.length ({ x := v, ws := [] } : ER) = [] := rfl
    rw [this]
    simpa [setAll] using hk

set_option maxHeartbeats 8000000 in
set_option maxRecDepth 8000 in
theorem law_runs (b : Bu) (w : List Int) : CallsP pg 6 [.agg (buC b), .sl false (ints w)] (fun v => v = .bool true) := by
  have c9 := law_head
  have c22 := law_right b w 12
  cases hr : rightB b w 12 with
  | false =>
    rw [hr] at c22
    refine CallsP.of_wpN [] 167 fn6 rfl rfl ?_
    refine WP.abs (fun s => s 0 = .agg (buC b) ∧ s 1 = .sl false (ints w)) ⟨rfl, rfl⟩ ?_
    rintro s ⟨h0, h1⟩
    repeat' (with_reducible first | refine WP.seq ?_ | refine WP.ret ?_ | refine seqK_normal ?_ | refine seqK_ret ?_ | (apply WP.regionE; (with_unfolding_all (simp +decide (disch := first | decide | omega) only [go_sem, *]; rfl))) | (apply WP.regionX; with_unfolding_all rfl; (with_unfolding_all (simp +decide (disch := first | decide | omega) only [go_sem, *]; rfl))) | (apply opsT.call; (with_unfolding_all (simp +decide (disch := first | decide | omega) only [go_sem, *]; rfl)); (focus (simp +decide (disch := first | decide | omega) only [go_sem, *]; done)); (with_unfolding_all (simp +decide (disch := first | decide | omega) only [go_sem, *]; rfl))) | (apply opsT.fin; (with_unfolding_all (simp +decide (disch := first | decide | omega) only [go_sem, *]; rfl))) | (apply CallsP.eq (c9); (focus (simp +decide (disch := first | decide | omega) only [go_sem, *]; done))) | (apply CallsP.eq (c22); (focus (simp +decide (disch := first | decide | omega) only [go_sem, *]; done))) | (apply WP.condT; (focus (simp +decide (disch := first | decide | omega) only [go_sem, *]; done))) | (apply fnPost_pure 0; (first | exact .inl rfl | exact .inr rfl); (simp +decide (disch := first | decide | omega) only [go_sem, *]; rfl); (simp +decide (disch := first | decide | omega) only [go_sem, *]; rfl)))
    rfl
  | true =>
  rw [hr] at c22
  obtain ⟨hf, hv, hwl, hw⟩ := rightB_iff.1 hr
  have hw12 : w.length ≤ 12 := by omega
  have c17 := tree_Start b
  have hvl := (validB_iff.1 hv).1
  obtain ⟨N, hN⟩ : ∃ N, 2 * b.next.length + 1 = N := ⟨_, rfl⟩
  have hNi : (2 : Int) * (b.next.length : Int) + 1 = (N : Int) := by omega
  have hNn : ((N : Int)).toNat = N := by omega
  refine CallsP.of_wpN [] 167 fn6 rfl rfl ?_
  refine WP.abs (fun s => s 0 = .agg (buC b) ∧ s 1 = .sl false (ints w)) ⟨rfl, rfl⟩ ?_
  rintro s ⟨h0, h1⟩
  repeat' (with_reducible first | refine WP.seq ?_ | refine WP.skip ?_ | refine WP.block ?_ | refine seqK_normal ?_ | (apply WP.regionE; (with_unfolding_all (simp +decide (disch := first | decide | omega) only [go_sem, *]; rfl))) | (apply WP.regionX; with_unfolding_all rfl; (with_unfolding_all (simp +decide (disch := first | decide | omega) only [go_sem, *]; rfl))) | (apply opsT.call; (with_unfolding_all (simp +decide (disch := first | decide | omega) only [go_sem, *]; rfl)); (focus (simp +decide (disch := first | decide | omega) only [go_sem, *]; done)); (with_unfolding_all (simp +decide (disch := first | decide | omega) only [go_sem, *]; rfl))) | (apply opsT.fin; (with_unfolding_all (simp +decide (disch := first | decide | omega) only [go_sem, *]; rfl))) | (apply CallsP.eq (c9); (focus (simp +decide (disch := first | decide | omega) only [go_sem, *]; done))) | (apply CallsP.eq (c22); (focus (simp +decide (disch := first | decide | omega) only [go_sem, *]; done))) | (apply CallsP.eq (c17); (focus (simp +decide (disch := first | decide | omega) only [go_sem, *]; done))) | (apply WP.condF; (focus (simp +decide (disch := first | decide | omega) only [go_sem, *]; done))))
  clear c9 c22 c17
  refine WP.loop (fun s h => s 1 = .sl false (ints w) ∧ s 2 = .ep 0 0 0 ∧ s 5 = .bool true ∧ s 7 = .int .i64 N ∧ s 8 = .ow 1 0 N ∧ s 9 = .ow 2 0 N ∧ h[0]? = some (.row 25 [buC b]) ∧ ∃ i : Nat, s 10 = .int .i64 i ∧ i ≤ w.length ∧ s 6 = .sl false (nds (runT b w i).1) ∧ ∃ th si, h[1]? = some (.row 22 (thR th)) ∧ h[2]? = some (.row 3 (ints si)) ∧ RunInv b w i (runT b w i).1 th si) (fun s _ => w.length - (s 10).toInt.toNat)
    ⟨by ((simp +decide (disch := first | decide | omega) only [go_sem, *]; done)), by (rfl), by (rfl), by (rfl), by (rfl), by (rfl), by first | rfl | (simp +decide (disch := first | decide | omega) only [go_sem, *]; done) | (simp +decide (disch := first | decide | omega) only [go_sem, *]; rfl), 0, by simp +decide (disch := first | decide | omega) only [go_sem, *]; rfl, by omega, by (rfl), List.replicate N [], List.replicate N 0, by rw [thR_rep]; first | rfl | (simp +decide (disch := first | decide | omega) only [go_sem, *]; done) | (simp +decide (disch := first | decide | omega) only [go_sem, *]; rfl), by first | rfl | (simp +decide (disch := first | decide | omega) only [go_sem, *]; done) | (simp +decide (disch := first | decide | omega) only [go_sem, *]; rfl), by rw [← hN]; exact runT_inv0 b w _⟩ ?_
  clear h0 h1 s hNn
  rintro s h ⟨g1, g2, g5, g7, g8, g9, r0, i, g10, hi, g6, th, si, r1, r2, hI⟩
  obtain ⟨v1, _, _⟩ := run_ok hv hw i hi
  have h2l : 2 < h.length := (List.getElem?_eq_some_iff.1 r2).1
  by_cases hlt : i < w.length
  · have ha := hw i hlt
    have hT : (runT b w (i + 1)).1 = (stepT b (runT b w i).1 (nth w i)).1 := rfl
    have htl := (validT_iff.1 v1).2.1
    obtain ⟨t, ht⟩ : ∃ t, (runT b w i).1 = t := ⟨_, rfl⟩
    rw [ht] at g6 hI v1 hT htl
    have hok : okStep b t (nth w i) := ⟨v1, ha⟩
    have c12 := law_step b t (nth w i) (by omega)
    rw [step_ok hok] at c12 hT
    simp only at c12 hT
    have hnext := run_next v1 hlt ha hI
    have hcheck := fun n hn hne => run_check (n := n) v1 hlt ha hI hn hne
    have hbr := fun n (hn : n ∈ (evS b t (nth w i)).bad) => bad_range v1 hn
    have hgr := fun n (hn : n ∈ (evS b t (nth w i)).good) => good_range v1 hn
    have hgu := good_up (a := nth w i) v1
    have hpl : ∀ n ∈ (evS b t (nth w i)).good, ∃ p : Nat, p < (outS b t (nth w i)).length ∧ place (outS b t (nth w i)) n = p ∧ (nth (outS b t (nth w i)) p).set ≠ [] := fun n hn => by
      obtain ⟨j, hj, hg, hjn⟩ := (good_iff v1).1 hn
      obtain ⟨hk, _⟩ := good_full hj hg
      obtain ⟨p1, p2⟩ := pos_at hk
      exact ⟨pos b t (nth w i) j, by rw [out_len]; exact p1, by rw [← hjn, good_pos v1 hj hk], x_ne v1 p1⟩
    have hgl := good_len b t (nth w i)
    have hbl := bad_len b t (nth w i)
    have hxs : ∀ k, k < (outS b t (nth w i)).length → (nth (outS b t (nth w i)) k).set.length ≤ b.next.length := fun k hk => by
      rw [x_set (by rw [← out_len]; exact hk)]
      have h1 := filter_le (nth (trimS b t (nth w i)) (nth (keptS b t (nth w i)) k)).st (states b)
      have h2 : (states b).length = b.next.length := by simp [states]
      simp only [elems]; omega
    obtain ⟨hI1, hI2, _⟩ := hI
    generalize outS b t (nth w i) = X at *
    generalize evS b t (nth w i) = E at *
    rw [hN] at hI1 hI2
    clear ht hok v1
    repeat' (with_reducible first | refine WP.seq ?_ | refine WP.skip ?_ | refine WP.block ?_ | refine WP.exit ?_ | refine WP.ret ?_ | refine seqK_normal ?_ | refine seqK_exit ?_ | refine loopK_exit ?_ | refine blockK_here ?_ | (apply WP.regionE; (with_unfolding_all (simp +decide (disch := first | decide | omega) only [go_sem, *]; rfl))) | (apply WP.condB; (simp +decide (disch := first | decide | omega) only [go_sem, *]; rfl); all_goals (intro hb; (first | rw [dlt_t] at hb | rw [dlt_f] at hb | rw [dle_t] at hb | rw [dle_f] at hb | rw [Bool.not_eq_true'] at hb | rw [Bool.not_eq_false'] at hb | skip))))
    · have hwi : (ints w)[i]? = some [.int .i64 (nth w i)] := ints_nth hlt
      refine WP.regionDA [[],[],[],[],[],[],[],[],[],[],[],[],[h.length]] mixed (by with_unfolding_all rfl) ?_
      refine opsD.step (h1 := h) (h2 := h) (nw' := [[]]) (r := { x := .agg (buC b) }) [] (by with_unfolding_all rfl) (by with_unfolding_all rfl) rfl (by with_unfolding_all rfl) ?a0 rfl rfl (by simp [setAll]) ?_
      case a0 =>
        refine opE_load.trans ?_
        ((simp +decide (disch := first | decide | omega) only [go_sem, *]; done))
      refine opsD.seg 3 (j := 4) (nw' := [[],[],[],[]]) (by with_unfolding_all rfl) (by with_unfolding_all rfl) rfl rfl (by (with_unfolding_all (simp +decide (disch := first | decide | omega) only [go_sem, *]; rfl))) ?_
      refine opsD.step (h1 := h) (h2 := h) (nw' := [[],[],[],[],[]]) (r := { x := .ip [.int .i64 (nth w i)] }) [] (by with_unfolding_all rfl) (by with_unfolding_all rfl) rfl (by with_unfolding_all rfl) ?a4 rfl rfl (by simp [setAll]) ?_
      case a4 =>
        refine opE_indexAddr.trans ?_
        ((simp +decide (disch := first | decide | omega) only [go_sem, *]; done))
      refine opsD.step (h1 := h) (h2 := h) (nw' := [[],[],[],[],[],[]]) (r := { x := .int .i64 (nth w i) }) [] (by with_unfolding_all rfl) (by with_unfolding_all rfl) rfl (by with_unfolding_all rfl) ?a5 rfl rfl (by simp [setAll]) ?_
      case a5 =>
        refine opE_load.trans ?_
        (rfl)
      refine opsD_callP (h1 := h) (nw' := [[],[],[],[],[],[],[]]) [] (by with_unfolding_all rfl) (by with_unfolding_all rfl) rfl (by with_unfolding_all rfl) (by simp +decide (disch := first | decide | omega) only [go_sem, *]) en12 (by (rfl)) (by simp [HV.freeL, HV.free, buC_free, nds_free]) c12 rfl ?_
      refine opsD.seg 3 (j := 10) (nw' := [[],[],[],[],[],[],[],[],[],[]]) (by with_unfolding_all rfl) (by with_unfolding_all rfl) rfl rfl (by (with_unfolding_all (simp +decide (disch := first | decide | omega) only [go_sem, *]; rfl))) ?_
      refine opsD.step (h1 := h) (h2 := h ++ [.row 31 [[.sl true [], .sl true []]]]) (nw' := [[],[],[],[],[],[],[],[],[],[],[h.length]]) (r := { x := .ep h.length 0 0, ns := [.row 31 [[.sl true [], .sl true []]]] }) [] (by with_unfolding_all rfl) (by with_unfolding_all rfl) rfl (by with_unfolding_all rfl) ?a10 rfl rfl rfl ?_
      case a10 =>
        refine opE_alloc.trans ?_
        (rfl)
      refine opsD.seg 1 (j := 12) (nw' := [[],[],[],[],[],[],[],[],[],[],[h.length],[]]) (by with_unfolding_all rfl) (by with_unfolding_all rfl) rfl rfl (by (with_unfolding_all (simp +decide (disch := first | decide | omega) only [go_sem, *]; rfl))) ?_
      refine opsD.step (h1 := h ++ [.row 31 [[.sl true [], .sl true []]]]) (h2 := h ++ [.row 31 [evnC E]]) (nw' := [[],[],[],[],[],[],[],[],[],[],[h.length],[],[h.length]]) (r := { x := .und, ws := [(h.length, .row 31 [evnC E])] }) [] (by with_unfolding_all rfl) (by with_unfolding_all rfl) rfl (by with_unfolding_all rfl) ?a12 (by simp [liveB, HO.live]) rfl (by simp [setAll]) ?_
      case a12 =>
        refine opE_store.trans ?_
        ((simp +decide (disch := first | decide | omega) only [go_sem, *]; done))
      refine opsD.fin (by with_unfolding_all rfl) ?_
      clear hwi
      repeat' (with_reducible first | refine WP.seq ?_ | refine WP.block ?_ | refine seqK_normal ?_ | (apply WP.regionE; (with_unfolding_all (simp +decide (disch := first | decide | omega) only [go_sem, *]; rfl))))
      refine WP.loop (fun s' H => s' 1 = .sl false (ints w) ∧ s' 2 = .ep 0 0 0 ∧ s' 5 = .bool true ∧ s' 7 = .int .i64 N ∧ s' 8 = .ow 1 0 N ∧ s' 9 = .ow 2 0 N ∧ s' 10 = .int .i64 i ∧ s' 11 = .sl false (nds X) ∧ s' 12 = .ep h.length 0 0 ∧ H[0]? = some (.row 25 [buC b]) ∧ H[2]? = some (.row 3 (ints si)) ∧ H[h.length]? = some (.row 31 [evnC E]) ∧ ∃ k : Nat, s' 13 = .int .i64 k ∧ k ≤ E.bad.length ∧ H[1]? = some (.row 22 (thR (dropN th (E.bad.take k))))) (fun s' _ => E.bad.length - (s' 13).toInt.toNat)
        ⟨by ((simp +decide (disch := first | decide | omega) only [go_sem, *]; done)), by ((simp +decide (disch := first | decide | omega) only [go_sem, *]; done)), by ((simp +decide (disch := first | decide | omega) only [go_sem, *]; done)), by ((simp +decide (disch := first | decide | omega) only [go_sem, *]; done)), by ((simp +decide (disch := first | decide | omega) only [go_sem, *]; done)), by ((simp +decide (disch := first | decide | omega) only [go_sem, *]; done)), by ((simp +decide (disch := first | decide | omega) only [go_sem, *]; done)), by (rfl), by (rfl), ?_, ?_, ?_, 0, by simp +decide (disch := first | decide | omega) only [go_sem, *]; rfl, by omega, ?_⟩ ?_
      · rw [List.getElem?_append_left (by omega)]; exact r0
      · rw [List.getElem?_append_left (by omega)]; exact r2
      · simp
      · rw [List.getElem?_append_left (by omega)]; exact r1
      clear g1 g2 g5 g7 g8 g9 g6 r0 r1 r2 c12
      rintro s' H ⟨g1, g2, g5, g7, g8, g9, g10', g11, g12, r0, r2, re, k, g13, hk, r1⟩
      have hcl : (dropN th (E.bad.take k)).length = N := by rw [dropN_len]; exact hI1
      by_cases hkl : k < E.bad.length
      · obtain ⟨hb1, hb2⟩ := hbr _ (nth_mem hkl)
        have hst : (thR (dropN th (E.bad.take k))).set (nth E.bad k).toNat [.sl true []] = thR (dropN th (E.bad.take (k + 1))) := by rw [take_nth hkl, dropN_snoc, ← thR_set]; rfl
        have hcell := thR_get (th := dropN th (E.bad.take k)) (k := (nth E.bad k).toNat) (by omega)
        have hidx : (nth E.bad k).toNat < N := by omega
        have h1l : 1 < H.length := (List.getElem?_eq_some_iff.1 r1).1
        clear hnext hcheck hbr hgr hpl hxs
        generalize thV (nth (dropN th (E.bad.take k)) (nth E.bad k).toNat) = cv at *
        repeat' (with_reducible first | refine WP.seq ?_ | refine WP.skip ?_ | refine WP.block ?_ | refine WP.exit ?_ | refine WP.ret ?_ | refine seqK_normal ?_ | refine seqK_exit ?_ | refine seqK_ret ?_ | refine loopK_exit ?_ | refine loopK_ret ?_ | refine blockK_normal ?_ | refine blockK_here ?_ | refine blockK_ret ?_ | (apply WP.regionE; (with_unfolding_all (simp +decide (disch := first | decide | omega) only [go_sem, *]; rfl))) | (apply WP.condB; (simp +decide (disch := first | decide | omega) only [go_sem, *]; rfl); all_goals (intro hb; (first | rw [dlt_t] at hb | rw [dlt_f] at hb | rw [dle_t] at hb | rw [dle_f] at hb | rw [Bool.not_eq_true'] at hb | rw [Bool.not_eq_false'] at hb | skip))) | (apply WP.guardB 0; with_unfolding_all rfl; (with_unfolding_all (simp +decide (disch := first | decide | omega) only [go_sem, *]; rfl)); (simp +decide (disch := first | decide | omega) only [go_sem, *]; rfl); all_goals (intro hb; (fail_if_success (exact absurd hb (by decide))); (first | rw [dlt_t] at hb | rw [dlt_f] at hb | rw [dle_t] at hb | rw [dle_f] at hb | rw [Bool.not_eq_true'] at hb | rw [Bool.not_eq_false'] at hb | skip))))
        all_goals try omega
        refine loopK_normal ⟨by ((simp +decide (disch := first | decide | omega) only [go_sem, *]; done)), by ((simp +decide (disch := first | decide | omega) only [go_sem, *]; done)), by ((simp +decide (disch := first | decide | omega) only [go_sem, *]; done)), by ((simp +decide (disch := first | decide | omega) only [go_sem, *]; done)), by ((simp +decide (disch := first | decide | omega) only [go_sem, *]; done)), by ((simp +decide (disch := first | decide | omega) only [go_sem, *]; done)), by ((simp +decide (disch := first | decide | omega) only [go_sem, *]; done)), by ((simp +decide (disch := first | decide | omega) only [go_sem, *]; done)), by ((simp +decide (disch := first | decide | omega) only [go_sem, *]; done)), ?_, ?_, ?_, k + 1, by simp +decide (disch := first | decide | omega) only [go_sem, *]; rfl, by omega, ?_⟩ (by simp +decide (disch := first | decide | omega) only [go_sem, *]; omega)
        · rw [List.getElem?_set_ne (by omega)]; exact r0
        · rw [List.getElem?_set_ne (by omega)]; exact r2
        · rw [List.getElem?_set_ne (by omega)]; exact re
        · exact List.getElem?_set_self h1l
      obtain rfl : k = E.bad.length := by omega
      rw [List.take_length] at r1 hcl
      obtain ⟨th1, hth1⟩ : ∃ th1, dropN th E.bad = th1 := ⟨_, rfl⟩
      rw [hth1] at r1 hcl
      simp only [hth1] at hnext hcheck
      clear hth1 hbr
      repeat' (with_reducible first | refine WP.seq ?_ | refine WP.skip ?_ | refine WP.block ?_ | refine WP.exit ?_ | refine seqK_normal ?_ | refine seqK_exit ?_ | refine loopK_exit ?_ | refine blockK_here ?_ | (apply WP.regionE; (with_unfolding_all (simp +decide (disch := first | decide | omega) only [go_sem, *]; rfl))) | (apply WP.condB; (simp +decide (disch := first | decide | omega) only [go_sem, *]; rfl); all_goals (intro hb; (first | rw [dlt_t] at hb | rw [dlt_f] at hb | rw [dle_t] at hb | rw [dle_f] at hb | rw [Bool.not_eq_true'] at hb | rw [Bool.not_eq_false'] at hb | skip))))
      · omega
      refine WP.loop (fun s' H => s' 1 = .sl false (ints w) ∧ s' 2 = .ep 0 0 0 ∧ s' 5 = .bool true ∧ s' 7 = .int .i64 N ∧ s' 8 = .ow 1 0 N ∧ s' 9 = .ow 2 0 N ∧ s' 10 = .int .i64 i ∧ s' 11 = .sl false (nds X) ∧ s' 12 = .ep h.length 0 0 ∧ H[0]? = some (.row 25 [buC b]) ∧ H[h.length]? = some (.row 31 [evnC E]) ∧ ∃ k : Nat, s' 14 = .int .i64 k ∧ k ≤ E.good.length ∧ H[1]? = some (.row 22 (thR (keepN X i (th1, si) (E.good.take k)).1)) ∧ H[2]? = some (.row 3 (ints (keepN X i (th1, si) (E.good.take k)).2))) (fun s' _ => E.good.length - (s' 14).toInt.toNat)
        ⟨by ((simp +decide (disch := first | decide | omega) only [go_sem, *]; done)), by ((simp +decide (disch := first | decide | omega) only [go_sem, *]; done)), by ((simp +decide (disch := first | decide | omega) only [go_sem, *]; done)), by ((simp +decide (disch := first | decide | omega) only [go_sem, *]; done)), by ((simp +decide (disch := first | decide | omega) only [go_sem, *]; done)), by ((simp +decide (disch := first | decide | omega) only [go_sem, *]; done)), by ((simp +decide (disch := first | decide | omega) only [go_sem, *]; done)), by ((simp +decide (disch := first | decide | omega) only [go_sem, *]; done)), by ((simp +decide (disch := first | decide | omega) only [go_sem, *]; done)), r0, re, 0, by simp +decide (disch := first | decide | omega) only [go_sem, *]; rfl, by omega, r1, r2⟩ ?_
      clear g1 g2 g5 g7 g8 g9 g10' g11 g12 g13 r0 r1 r2 re s' H
      rintro s' H ⟨g1, g2, g5, g7, g8, g9, g10', g11, g12, r0, re, k, g14, hk, r1, r2⟩
      obtain ⟨l1, l2⟩ := keepN_len X i (th1, si) E.good k hk
      simp only at l1 l2
      by_cases hkl : k < E.good.length
      · have hm := nth_mem hkl
        obtain ⟨hb1, hb2⟩ := hgr _ hm
        obtain ⟨p, hp, hpn, hps⟩ := hpl _ hm
        have hxp := hxs p hp
        have hdis : ∀ j, j < k → (nth E.good j).toNat ≠ (nth E.good k).toNat := fun j hj => by
          have h1 := pw_nth hgu hj hkl
          have h2 := hgr _ (nth_mem (show j < E.good.length by omega))
          omega
        obtain ⟨e1, e2⟩ := (keepN_nth X i (th1, si) (nth E.good k).toNat (by simp only; omega) (by simp only; omega) E.good k hk).1 hdis
        simp only at e1 e2
        have hsn := keepN_snoc X i (th1, si) (E.good.take k) (nth E.good k)
        rw [← take_nth hkl] at hsn
        have hchk := hcheck _ hm
        have hso : setOf X (nth E.good k) = (nth X p).set := by unfold setOf; rw [hpn]; rfl
        rw [hso] at hsn hchk
        have c25 := ref_place X (nth E.good k)
        rw [hpn] at c25
        clear hcheck hgr hpl hxs hnext hgu hdis hm
        obtain ⟨n, hn⟩ : ∃ n, nth E.good k = n := ⟨_, rfl⟩
        rw [hn] at hb1 hb2 hsn hchk c25 e1 e2
        obtain ⟨A, hA⟩ : ∃ A, (keepN X i (th1, si) (E.good.take k)).1 = A := ⟨_, rfl⟩
        obtain ⟨B, hB⟩ : ∃ B, (keepN X i (th1, si) (E.good.take k)).2 = B := ⟨_, rfl⟩
        rw [hA] at r1 l1 e1
        rw [hB] at r2 l2 e2
        rw [hA, hB] at hsn
        have hA1 : A.length = N := by omega
        have hB1 : B.length = N := by omega
        have hidx : n.toNat < N := by omega
        have h1l : 1 < H.length := (List.getElem?_eq_some_iff.1 r1).1
        have h2l' : 2 < H.length := (List.getElem?_eq_some_iff.1 r2).1
        have hcell := thR_get (th := A) (k := n.toNat) (by omega)
        have hcell2 := ints_nth (l := B) (k := n.toNat) (by omega)
        have hst : (thR A).set n.toNat [.sl false (ints (nth X p).set)] = thR (keepN X i (th1, si) (E.good.take (k + 1))).1 := by rw [hsn, ← thR_set, thV_some hps]
        have hst2 : B.set n.toNat ((i : Int) + 1) = (keepN X i (th1, si) (E.good.take (k + 1))).2 := by rw [hsn]
        obtain ⟨A', hA'⟩ : ∃ A', (keepN X i (th1, si) (E.good.take (k + 1))).1 = A' := ⟨_, rfl⟩
        obtain ⟨B', hB'⟩ : ∃ B', (keepN X i (th1, si) (E.good.take (k + 1))).2 = B' := ⟨_, rfl⟩
        rw [hA'] at hst
        rw [hB'] at hst2
        rw [e1] at hcell
        rw [e2] at hcell2
        have hgn : (ints E.good)[k]? = some [.int .i64 n] := by rw [ints_nth hkl, hn]
        clear hsn hA hB e1 e2 l1 l2 hso hn
        have hw1 : (H.set 1 (.row 22 (thR A')))[2]? = some (.row 3 (ints B)) := by rw [List.getElem?_set_ne (by decide)]; exact r2
        by_cases hne : nth th1 n.toNat = []
        · rw [hne, thV_nil] at hcell
          clear hchk hne
          repeat' (with_reducible first | refine WP.seq ?_ | refine WP.skip ?_ | refine WP.block ?_ | refine WP.exit ?_ | refine WP.ret ?_ | refine seqK_normal ?_ | refine seqK_exit ?_ | refine seqK_ret ?_ | refine loopK_exit ?_ | refine loopK_ret ?_ | refine blockK_normal ?_ | refine blockK_here ?_ | refine blockK_ret ?_ | (apply WP.regionE; (with_unfolding_all (simp +decide (disch := first | decide | omega) only [go_sem, *]; rfl))) | (apply WP.regionX; with_unfolding_all rfl; (with_unfolding_all (simp +decide (disch := first | decide | omega) only [go_sem, *]; rfl))) | (apply opsT.call; (with_unfolding_all (simp +decide (disch := first | decide | omega) only [go_sem, *]; rfl)); (focus (simp +decide (disch := first | decide | omega) only [go_sem, *]; done)); (with_unfolding_all (simp +decide (disch := first | decide | omega) only [go_sem, *]; rfl))) | (apply opsT.fin; (with_unfolding_all (simp +decide (disch := first | decide | omega) only [go_sem, *]; rfl))) | (apply CallsP.eq (c25); (focus (simp +decide (disch := first | decide | omega) only [go_sem, *]; done))) | (apply WP.condT; (focus (simp +decide (disch := first | decide | omega) only [go_sem, *]; done))) | (apply WP.condF; (focus (simp +decide (disch := first | decide | omega) only [go_sem, *]; done))) | (apply WP.condB; (simp +decide (disch := first | decide | omega) only [go_sem, *]; rfl); all_goals (intro hb; (first | rw [dlt_t] at hb | rw [dlt_f] at hb | rw [dle_t] at hb | rw [dle_f] at hb | rw [Bool.not_eq_true'] at hb | rw [Bool.not_eq_false'] at hb | skip))) | (apply WP.guardB 0; with_unfolding_all rfl; (with_unfolding_all (simp +decide (disch := first | decide | omega) only [go_sem, *]; rfl)); (simp +decide (disch := first | decide | omega) only [go_sem, *]; rfl); all_goals (intro hb; (fail_if_success (exact absurd hb (by decide))); (first | rw [dlt_t] at hb | rw [dlt_f] at hb | rw [dle_t] at hb | rw [dle_f] at hb | rw [Bool.not_eq_true'] at hb | rw [Bool.not_eq_false'] at hb | skip))) | (apply WP.guardB 1; with_unfolding_all rfl; (with_unfolding_all (simp +decide (disch := first | decide | omega) only [go_sem, *]; rfl)); (simp +decide (disch := first | decide | omega) only [go_sem, *]; rfl); all_goals (intro hb; (fail_if_success (exact absurd hb (by decide))); (first | rw [dlt_t] at hb | rw [dlt_f] at hb | rw [dle_t] at hb | rw [dle_f] at hb | rw [Bool.not_eq_true'] at hb | rw [Bool.not_eq_false'] at hb | skip))))
          all_goals try omega
          refine loopK_normal ⟨by ((simp +decide (disch := first | decide | omega) only [go_sem, *]; done)), by ((simp +decide (disch := first | decide | omega) only [go_sem, *]; done)), by ((simp +decide (disch := first | decide | omega) only [go_sem, *]; done)), by ((simp +decide (disch := first | decide | omega) only [go_sem, *]; done)), by ((simp +decide (disch := first | decide | omega) only [go_sem, *]; done)), by ((simp +decide (disch := first | decide | omega) only [go_sem, *]; done)), by ((simp +decide (disch := first | decide | omega) only [go_sem, *]; done)), by ((simp +decide (disch := first | decide | omega) only [go_sem, *]; done)), by ((simp +decide (disch := first | decide | omega) only [go_sem, *]; done)), ?_, ?_, k + 1, by simp +decide (disch := first | decide | omega) only [go_sem, *]; rfl, by omega, ?_, ?_⟩ (by simp +decide (disch := first | decide | omega) only [go_sem, *]; omega)
          · rw [List.getElem?_set_ne (by omega), List.getElem?_set_ne (by omega)]; exact r0
          · rw [List.getElem?_set_ne (by omega), List.getElem?_set_ne (by omega)]; exact re
          · rw [hA', List.getElem?_set_ne (by omega)]; exact List.getElem?_set_self h1l
          · rw [hB']; exact List.getElem?_set_self (by rw [List.length_set]; exact h2l')
        · obtain ⟨hS, hSin, sn, hs1, hs2, hs3⟩ := hchk hne
          rw [thV_some hne] at hcell
          rw [hs1] at hcell2
          obtain ⟨S, hSe⟩ : ∃ S, nth th1 n.toNat = S := ⟨_, rfl⟩
          rw [hSe] at hcell hS hne
          rw [← hS] at hSin hs3
          have c27 := law_moved b S (seg w sn (i + 1)) hv (nth_of hSin) (seg_in hw) (by have := seg_len w sn (i + 1); omega)
          have hsg := seg_ints w sn (i + 1)
          have hsg2 : (w.drop sn).take (i + 1 - sn) = seg w sn (i + 1) := rfl
          have hall : (∀ cs ∈ ints w, cs.length = 1) ↔ True := ⟨fun _ => trivial, fun _ cs hc => by simp only [ints, List.mem_map] at hc; obtain ⟨x, _, rfl⟩ := hc; rfl⟩
          have hib : (i : Int) + 1 ≤ (w.length : Int) := by omega
          have hsb : (sn : Int) ≤ ((i + 1 : Nat) : Int) := by omega
          have hSl : 0 < S.length := List.length_pos_iff.2 hne
          obtain ⟨G, hG⟩ : ∃ G, (mv b S (seg w sn (i + 1))).2 = G := ⟨_, rfl⟩
          rw [hG] at c27 hs3
          clear hG hSe hS hs1 hne hchk hSin
          repeat' (with_reducible first | refine WP.seq ?_ | refine WP.skip ?_ | refine WP.block ?_ | refine WP.exit ?_ | refine WP.ret ?_ | refine seqK_normal ?_ | refine seqK_exit ?_ | refine seqK_ret ?_ | refine loopK_exit ?_ | refine loopK_ret ?_ | refine blockK_normal ?_ | refine blockK_here ?_ | refine blockK_ret ?_ | (apply WP.regionE; (with_unfolding_all (simp +decide (disch := first | decide | omega) only [go_sem, *]; rfl))) | (apply WP.regionX; with_unfolding_all rfl; (with_unfolding_all (simp +decide (disch := first | decide | omega) only [go_sem, *]; rfl))) | (apply WP.regionVX mixed; with_unfolding_all rfl; with_unfolding_all rfl; with_unfolding_all rfl; (with_unfolding_all (simp +decide (disch := first | decide | omega) only [go_sem, *]; rfl))) | (apply opsT.call; (with_unfolding_all (simp +decide (disch := first | decide | omega) only [go_sem, *]; rfl)); (focus (simp +decide (disch := first | decide | omega) only [go_sem, *]; done)); (with_unfolding_all (simp +decide (disch := first | decide | omega) only [go_sem, *]; rfl))) | (apply opsT.fin; (with_unfolding_all (simp +decide (disch := first | decide | omega) only [go_sem, *]; rfl))) | (apply opsV.call; (with_unfolding_all (simp +decide (disch := first | decide | omega) only [go_sem, *]; rfl)); (focus (simp +decide (disch := first | decide | omega) only [go_sem, *]; done)); (with_unfolding_all (simp +decide (disch := first | decide | omega) only [go_sem, *]; rfl)); exact (c27); (focus (simp +decide (disch := first | decide | omega) only [go_sem, *]; done))) | (apply opsV.fin; with_unfolding_all rfl; (with_unfolding_all (simp +decide (disch := first | decide | omega) only [go_sem, *]; rfl))) | (apply CallsP.eq (c25); (focus (simp +decide (disch := first | decide | omega) only [go_sem, *]; done))) | (apply WP.condT; (focus (simp +decide (disch := first | decide | omega) only [go_sem, *]; done))) | (apply WP.condB; (simp +decide (disch := first | decide | omega) only [go_sem, *]; rfl); all_goals (intro hb; (first | rw [dlt_t] at hb | rw [dlt_f] at hb | rw [dle_t] at hb | rw [dle_f] at hb | rw [Bool.not_eq_true'] at hb | rw [Bool.not_eq_false'] at hb | skip))) | (apply WP.guardB 0; with_unfolding_all rfl; (with_unfolding_all (simp +decide (disch := first | decide | omega) only [go_sem, *]; rfl)); (simp +decide (disch := first | decide | omega) only [go_sem, *]; rfl); all_goals (intro hb; (fail_if_success (exact absurd hb (by decide))); (first | rw [dlt_t] at hb | rw [dlt_f] at hb | rw [dle_t] at hb | rw [dle_f] at hb | rw [Bool.not_eq_true'] at hb | rw [Bool.not_eq_false'] at hb | skip))) | (apply WP.guardB 1; with_unfolding_all rfl; (with_unfolding_all (simp +decide (disch := first | decide | omega) only [go_sem, *]; rfl)); (simp +decide (disch := first | decide | omega) only [go_sem, *]; rfl); all_goals (intro hb; (fail_if_success (exact absurd hb (by decide))); (first | rw [dlt_t] at hb | rw [dlt_f] at hb | rw [dle_t] at hb | rw [dle_f] at hb | rw [Bool.not_eq_true'] at hb | rw [Bool.not_eq_false'] at hb | skip))))
          all_goals try omega
          refine WP.loop (fun s'' H' => s'' 1 = .sl false (ints w) ∧ s'' 2 = .ep 0 0 0 ∧ s'' 5 = .bool true ∧ s'' 7 = .int .i64 N ∧ s'' 8 = .ow 1 0 N ∧ s'' 9 = .ow 2 0 N ∧ s'' 10 = .int .i64 i ∧ s'' 11 = .sl false (nds X) ∧ s'' 12 = .ep h.length 0 0 ∧ s'' 14 = .int .i64 k ∧ s'' 15 = .int .i64 n ∧ s'' 16 = .int .i64 p ∧ s'' 18 = .sl false (ints G) ∧ H' = H ∧ ∃ j : Nat, s'' 19 = .int .i64 j ∧ j ≤ (nth X p).set.length) (fun s'' _ => (nth X p).set.length - (s'' 19).toInt.toNat)
            ⟨by ((simp +decide (disch := first | decide | omega) only [go_sem, *]; done)), by ((simp +decide (disch := first | decide | omega) only [go_sem, *]; done)), by ((simp +decide (disch := first | decide | omega) only [go_sem, *]; done)), by ((simp +decide (disch := first | decide | omega) only [go_sem, *]; done)), by ((simp +decide (disch := first | decide | omega) only [go_sem, *]; done)), by ((simp +decide (disch := first | decide | omega) only [go_sem, *]; done)), by ((simp +decide (disch := first | decide | omega) only [go_sem, *]; done)), by ((simp +decide (disch := first | decide | omega) only [go_sem, *]; done)), by ((simp +decide (disch := first | decide | omega) only [go_sem, *]; done)), by ((simp +decide (disch := first | decide | omega) only [go_sem, *]; done)), by (rfl), by (rfl), by (rfl), by first | rfl | (fail), 0, by simp +decide (disch := first | decide | omega) only [go_sem, *]; rfl, by omega⟩ ?_
          clear g1 g2 g5 g7 g8 g9 g10' g11 g12 c25 c27 hsg hsg2 hall hib hsb
          rintro s'' H' ⟨g1, g2, g5, g7, g8, g9, g10', g11, g12, g14', g15, g16, g18, rfl, j, g19, hj⟩
          by_cases hjl : j < (nth X p).set.length
          · have c26 := ref_In G (nth (nth X p).set j)
            rw [List.contains_iff_mem.2 (hs3 _ (nth_mem hjl))] at c26
            repeat' (with_reducible first | refine WP.seq ?_ | refine WP.skip ?_ | refine WP.block ?_ | refine WP.exit ?_ | refine seqK_normal ?_ | refine seqK_exit ?_ | refine loopK_exit ?_ | refine blockK_normal ?_ | refine blockK_here ?_ | (apply WP.regionE; (with_unfolding_all (simp +decide (disch := first | decide | omega) only [go_sem, *]; rfl))) | (apply WP.regionX; with_unfolding_all rfl; (with_unfolding_all (simp +decide (disch := first | decide | omega) only [go_sem, *]; rfl))) | (apply opsT.call; (with_unfolding_all (simp +decide (disch := first | decide | omega) only [go_sem, *]; rfl)); (focus (simp +decide (disch := first | decide | omega) only [go_sem, *]; done)); (with_unfolding_all (simp +decide (disch := first | decide | omega) only [go_sem, *]; rfl))) | (apply opsT.fin; (with_unfolding_all (simp +decide (disch := first | decide | omega) only [go_sem, *]; rfl))) | (apply CallsP.eq (c26); (focus (simp +decide (disch := first | decide | omega) only [go_sem, *]; done))) | (apply WP.condF; (focus (simp +decide (disch := first | decide | omega) only [go_sem, *]; done))) | (apply WP.condB; (simp +decide (disch := first | decide | omega) only [go_sem, *]; rfl); all_goals (intro hb; (first | rw [dlt_t] at hb | rw [dlt_f] at hb | rw [dle_t] at hb | rw [dle_f] at hb | rw [Bool.not_eq_true'] at hb | rw [Bool.not_eq_false'] at hb | skip))))
            all_goals try omega
            exact loopK_normal ⟨by ((simp +decide (disch := first | decide | omega) only [go_sem, *]; done)), by ((simp +decide (disch := first | decide | omega) only [go_sem, *]; done)), by ((simp +decide (disch := first | decide | omega) only [go_sem, *]; done)), by ((simp +decide (disch := first | decide | omega) only [go_sem, *]; done)), by ((simp +decide (disch := first | decide | omega) only [go_sem, *]; done)), by ((simp +decide (disch := first | decide | omega) only [go_sem, *]; done)), by ((simp +decide (disch := first | decide | omega) only [go_sem, *]; done)), by ((simp +decide (disch := first | decide | omega) only [go_sem, *]; done)), by ((simp +decide (disch := first | decide | omega) only [go_sem, *]; done)), by ((simp +decide (disch := first | decide | omega) only [go_sem, *]; done)), by ((simp +decide (disch := first | decide | omega) only [go_sem, *]; done)), by ((simp +decide (disch := first | decide | omega) only [go_sem, *]; done)), by ((simp +decide (disch := first | decide | omega) only [go_sem, *]; done)), rfl, j + 1, by simp +decide (disch := first | decide | omega) only [go_sem, *]; rfl, by omega⟩ (by simp +decide (disch := first | decide | omega) only [go_sem, *]; omega)
          · obtain rfl : j = (nth X p).set.length := by omega
            repeat' (with_reducible first | refine WP.seq ?_ | refine WP.skip ?_ | refine WP.block ?_ | refine WP.exit ?_ | refine seqK_normal ?_ | refine seqK_exit ?_ | refine loopK_exit ?_ | refine blockK_normal ?_ | refine blockK_here ?_ | (apply WP.regionE; (with_unfolding_all (simp +decide (disch := first | decide | omega) only [go_sem, *]; rfl))) | (apply WP.condB; (simp +decide (disch := first | decide | omega) only [go_sem, *]; rfl); all_goals (intro hb; (first | rw [dlt_t] at hb | rw [dlt_f] at hb | rw [dle_t] at hb | rw [dle_f] at hb | rw [Bool.not_eq_true'] at hb | rw [Bool.not_eq_false'] at hb | skip))))
            all_goals try omega
            refine loopK_normal ⟨by ((simp +decide (disch := first | decide | omega) only [go_sem, *]; done)), by ((simp +decide (disch := first | decide | omega) only [go_sem, *]; done)), by ((simp +decide (disch := first | decide | omega) only [go_sem, *]; done)), by ((simp +decide (disch := first | decide | omega) only [go_sem, *]; done)), by ((simp +decide (disch := first | decide | omega) only [go_sem, *]; done)), by ((simp +decide (disch := first | decide | omega) only [go_sem, *]; done)), by ((simp +decide (disch := first | decide | omega) only [go_sem, *]; done)), by ((simp +decide (disch := first | decide | omega) only [go_sem, *]; done)), by ((simp +decide (disch := first | decide | omega) only [go_sem, *]; done)), ?_, ?_, k + 1, by simp +decide (disch := first | decide | omega) only [go_sem, *]; rfl, by omega, ?_, ?_⟩ (by simp +decide (disch := first | decide | omega) only [go_sem, *]; omega)
            · rw [List.getElem?_set_ne (by omega), List.getElem?_set_ne (by omega)]; exact r0
            · rw [List.getElem?_set_ne (by omega), List.getElem?_set_ne (by omega)]; exact re
            · rw [hA', List.getElem?_set_ne (by omega)]; exact List.getElem?_set_self h1l
            · rw [hB']; exact List.getElem?_set_self (by rw [List.length_set]; exact h2l')
      · obtain rfl : k = E.good.length := by omega
        rw [List.take_length] at r1 r2
        rw [← hT] at hnext
        obtain ⟨T', hT'⟩ : ∃ T', (runT b w (i + 1)).1 = T' := ⟨_, rfl⟩
        have hfin : ∃ i' : Nat, i' = i + 1 ∧ (runT b w i').1 = X ∧ RunInv b w i' X (keepN X i (th1, si) E.good).1 (keepN X i (th1, si) E.good).2 := ⟨i + 1, rfl, hT, by rw [hT] at hnext; exact hnext⟩
        clear hnext hcheck hgr hpl hxs hgu hT hT' T'
        repeat' (with_reducible first | refine WP.seq ?_ | refine WP.skip ?_ | refine WP.block ?_ | refine WP.exit ?_ | refine seqK_normal ?_ | refine seqK_exit ?_ | refine loopK_exit ?_ | refine blockK_normal ?_ | refine blockK_here ?_ | (apply WP.regionE; (with_unfolding_all (simp +decide (disch := first | decide | omega) only [go_sem, *]; rfl))) | (apply WP.condB; (simp +decide (disch := first | decide | omega) only [go_sem, *]; rfl); all_goals (intro hb; (first | rw [dlt_t] at hb | rw [dlt_f] at hb | rw [dle_t] at hb | rw [dle_f] at hb | rw [Bool.not_eq_true'] at hb | rw [Bool.not_eq_false'] at hb | skip))))
        all_goals try omega
        obtain ⟨i', hi', e1, e2⟩ := hfin
        refine loopK_normal ⟨by ((simp +decide (disch := first | decide | omega) only [go_sem, *]; done)), by ((simp +decide (disch := first | decide | omega) only [go_sem, *]; done)), by ((simp +decide (disch := first | decide | omega) only [go_sem, *]; done)), by ((simp +decide (disch := first | decide | omega) only [go_sem, *]; done)), by ((simp +decide (disch := first | decide | omega) only [go_sem, *]; done)), by ((simp +decide (disch := first | decide | omega) only [go_sem, *]; done)), r0, i', by first | (simp +decide (disch := first | decide | omega) only [go_sem, *]; done) | (simp +decide (disch := first | decide | omega) only [go_sem, *]; rfl), by omega, ?_, _, _, r1, r2, ?_⟩ (by simp +decide (disch := first | decide | omega) only [go_sem, *]; omega)
        · rw [e1]; first | (simp +decide (disch := first | decide | omega) only [go_sem, *]; done) | (simp +decide (disch := first | decide | omega) only [go_sem, *]; rfl)
        · rw [e1]; exact e2
    · omega
  · obtain rfl : i = w.length := by omega
    repeat' (with_reducible first | refine WP.seq ?_ | refine WP.skip ?_ | refine WP.block ?_ | refine WP.exit ?_ | refine WP.ret ?_ | refine seqK_normal ?_ | refine seqK_exit ?_ | refine loopK_exit ?_ | refine blockK_here ?_ | (apply WP.regionE; (with_unfolding_all (simp +decide (disch := first | decide | omega) only [go_sem, *]; rfl))) | (apply WP.regionVX mixed; with_unfolding_all rfl; with_unfolding_all rfl; with_unfolding_all rfl; (with_unfolding_all (simp +decide (disch := first | decide | omega) only [go_sem, *]; rfl))) | (apply WP.condB; (simp +decide (disch := first | decide | omega) only [go_sem, *]; rfl); all_goals (intro hb; (first | rw [dlt_t] at hb | rw [dlt_f] at hb | rw [dle_t] at hb | rw [dle_f] at hb | rw [Bool.not_eq_true'] at hb | rw [Bool.not_eq_false'] at hb | skip))) | (apply fnPost_pure 0; (first | exact .inl rfl | exact .inr rfl); (simp +decide (disch := first | decide | omega) only [go_sem, *]; rfl); (simp +decide (disch := first | decide | omega) only [go_sem, *]; rfl)))
    · omega
    · rfl

end Go.Proofs.Ytonhbeapffiibaa

