/-
  Chapter 16: package tree: Step of the empty tree, Step of any input.
-/
import Derived.Test.YtonhbeapffiibaaTreH
namespace Go.Proofs.Ytonhbeapffiibaa
open Go.HL

set_option maxHeartbeats 8000000 in
set_option maxRecDepth 8000 in
theorem tree_StepNil (b : Bu) (a : Int) (hvt : CallsP pg 19 [.agg (buC b), .sl false (nds [])] (fun v => v = .bool (validT b []))) (ho : okStep b [] a) :
    CallsP pg 12 [.agg (buC b), .sl false (nds []), .int .i64 a] (fun v => v.dim = .tup [.sl false (nds []), .agg (evnC ⟨[], []⟩)]) := by
  obtain ⟨hv, ha⟩ := ho
  obtain ⟨hvb, htl, hok⟩ := validT_iff.1 hv
  have hb3 := (validB_iff.1 hvb).1.2.2
  refine CallsP.of_wpN [] 127 fn12 rfl rfl ?_
  refine WP.abs (fun s => s 0 = .agg (buC b) ∧ s 1 = .sl false (nds []) ∧ s 2 = .int .i64 a) ⟨rfl, rfl, rfl⟩ ?_
  rintro s ⟨g0, g1, g2⟩
  have hga : ¬ a < 0 := by omega
  have hgb : ¬ b.letters ≤ a := by omega
  repeat' (with_reducible first | refine WP.seq ?_ | refine WP.skip ?_ | refine seqK_normal ?_ | (apply WP.regionE; (with_unfolding_all (simp +decide (disch := first | decide | omega) only [go_sem, *]; rfl))) | (apply WP.regionX; with_unfolding_all rfl; (with_unfolding_all (simp +decide (disch := first | decide | omega) only [go_sem, *]; rfl))) | (apply opsT.call; (with_unfolding_all (simp +decide (disch := first | decide | omega) only [go_sem, *]; rfl)); (focus (simp +decide (disch := first | decide | omega) only [go_sem, *]; done)); (with_unfolding_all (simp +decide (disch := first | decide | omega) only [go_sem, *]; rfl))) | (apply opsT.fin; (with_unfolding_all (simp +decide (disch := first | decide | omega) only [go_sem, *]; rfl))) | (apply CallsP.eq (hvt); (focus (simp +decide (disch := first | decide | omega) only [go_sem, *]; done))) | (apply WP.condF; (focus (simp +decide (disch := first | decide | omega) only [go_sem, *]; done))))
  refine (tree_grow b [] a _ hv ha).mono ?_
  rintro r h ⟨Lo, Ln, hpre, hG, hor⟩
  have hlo : Lo = [] := List.eq_nil_of_length_eq_zero hG.lo
  have hln : Ln = [] := List.eq_nil_of_length_eq_zero hG.ln
  subst hlo
  subst hln
  have hN := hG.nodes (fun j hj => by simp at hj)
  have hgr : grown b [] a = [] := List.eq_nil_of_length_eq_zero (by rw [grown_length]; rfl)
  rw [hgr] at hN
  rw [List.append_nil] at hN hor
  have hl2 : 2 ≤ h.length := by have := hpre.len; simp at this; omega
  have hb0 : h[0]? = some (.row 25 [buC b]) := by rw [hpre.at (by simp)]; rfl
  have hb1 : h[1]? = some (.row 31 [[.sl true [], .sl true []]]) := by rw [hpre.at (by simp)]; rfl
  clear hpre hG
  repeat' (with_reducible first | refine WP.seq ?_ | refine seqK_normal ?_ | (apply WP.regionX; with_unfolding_all rfl; (with_unfolding_all (simp +decide (disch := first | decide | omega) only [go_sem, *]; rfl))) | (apply opsT.call; (with_unfolding_all (simp +decide (disch := first | decide | omega) only [go_sem, *]; rfl)); (focus (simp +decide (disch := first | decide | omega) only [go_sem, *]; done)); (with_unfolding_all (simp +decide (disch := first | decide | omega) only [go_sem, *]; rfl))) | (apply opsT.fin; (with_unfolding_all (simp +decide (disch := first | decide | omega) only [go_sem, *]; rfl))))
  refine (tree_trim [] _ r h hN hor (by simp) (fun j hj => by simp at hj)).mono ?_
  rintro r2 h2 ⟨hN2, hl2, hfr2⟩
  have hor2 : OwnAt h2 r 66 (eps []) := own_keep hor fun j hj => hfr2 j _ hj fun x hx => by simp at hx
  have hb02 := hfr2 0 _ hb0 fun x hx => by simp at hx
  have hb12 := hfr2 1 _ hb1 fun x hx => by simp at hx
  clear hfr2
  repeat' (with_reducible first | refine WP.seq ?_ | refine seqK_normal ?_ | (apply WP.regionX; with_unfolding_all rfl; (with_unfolding_all (simp +decide (disch := first | decide | omega) only [go_sem, *]; rfl))) | (apply opsT.call; (with_unfolding_all (simp +decide (disch := first | decide | omega) only [go_sem, *]; rfl)); (focus (simp +decide (disch := first | decide | omega) only [go_sem, *]; done)); (with_unfolding_all (simp +decide (disch := first | decide | omega) only [go_sem, *]; rfl))) | (apply opsT.fin; (with_unfolding_all (simp +decide (disch := first | decide | omega) only [go_sem, *]; rfl))))
  refine (tree_flash b [] _ r h2 hN2 hor2 (by simp) (fun j hj => by simp at hj) (fun j hj => by simp at hj)).mono ?_
  rintro r3 h3 ⟨rfl, hN3, hl3, hfr3⟩
  have hor3 : OwnAt h3 r 66 (eps []) := own_keep hor2 fun j hj => hfr3 j _ hj fun x hx => by simp at hx
  have hb03 := hfr3 0 _ hb02 fun x hx => by simp at hx
  have hb13 := hfr3 1 _ hb12 fun x hx => by simp at hx
  clear hfr3 hN2 hN hor hor2 hb0 hb1 hb02 hb12
  have hG0 : goodsTo b (trimTo [] 0) 0 = [] := rfl
  have hor3' : r = .sl true [] ∨ ∃ k, r = .ow k 0 0 ∧ h3[k]? = some (.row 66 []) := by
    rcases hor3 with ⟨h1, _⟩ | ⟨k, h1, h2⟩
    · exact .inl h1
    · exact .inr ⟨k, h1, h2⟩
  simp only [List.length_nil, trimTo, flashTo, goodsTo, List.mergeSort_nil] at hN3 ⊢
  obtain ⟨ct, hct⟩ : ∃ ct : Int, ct = 0 := ⟨0, rfl⟩
  have hl31 : 1 < h3.length := by omega
  have hNall : ∀ h, NodesAt h [] [] := fun h => ⟨hN3.len, hN3.diff, fun j hj => by simp at hj⟩
  rcases hor3' with rfl | ⟨k, rfl, hrow⟩
  · skip
    have hrow := ct
    have hrow' := ct
    repeat' (with_reducible first | refine WP.seq ?_ | refine WP.block ?_ | refine seqK_normal ?_ | (apply WP.regionE; (with_unfolding_all (simp +decide (disch := first | decide | omega) only [go_sem, *]; rfl))) | (apply opsT.fin; (with_unfolding_all (simp +decide (disch := first | decide | omega) only [go_sem, *]; rfl))))
    refine WP.loop (fun s h => s 1 = .sl false (nds []) ∧ s 7 = .ep 1 0 0 ∧ s 8 = .sl true [] ∧ s 9 = .ep h3.length 0 0 ∧ s 46 = .int .i64 0 ∧ s 47 = .int .i64 0 ∧ h = h3 ++ [.row 31 [[.sl false (ints []), .sl true []]]]) (fun s _ => 0)
      ⟨by ((simp +decide (disch := first | decide | omega) only [go_sem, *]; done)), by (rfl), by (rfl), by (rfl), by (rfl), by (rfl), rfl⟩ ?_
    clear g0 g1 g2 s
    rintro s h4 ⟨g1, g7, g8, g9, g46, g47, rfl⟩
    have hx : (h3 ++ [HO.row 31 [[.sl false (ints []), .sl true []]]])[h3.length]? = some (.row 31 [[.sl false (ints []), .sl true []]]) := by simp
    have hor4 : OwnAt (h3 ++ [HO.row 31 [[.sl false (ints []), .sl true []]]]) (.sl true []) 66 (eps []) := own_pre hor3 ⟨_, rfl⟩
    have hb14 : (h3 ++ [HO.row 31 [[.sl false (ints []), .sl true []]]])[1]? = some (.row 31 [[.sl true [], .sl true []]]) := by rw [List.getElem?_append_left hl31]; exact hb13
    have hox : OwnAt (h3 ++ [HO.row 31 [[.sl false (ints []), .sl true []]]]) (.sl true []) 3 (ints []) := .inl ⟨rfl, rfl⟩
    have hc := CallsH.sortOwn sorts sorts0 sz3 hox (by simp)
    repeat' (with_reducible first | refine WP.seq ?_ | refine WP.exit ?_ | refine seqK_normal ?_ | refine seqK_exit ?_ | refine loopK_exit ?_ | refine blockK_here ?_ | (apply WP.regionE; (with_unfolding_all (simp +decide (disch := first | decide | omega) only [go_sem, *]; rfl))) | (apply WP.regionX; with_unfolding_all rfl; (with_unfolding_all (simp +decide (disch := first | decide | omega) only [go_sem, *]; rfl))) | (apply opsT.call; (with_unfolding_all (simp +decide (disch := first | decide | omega) only [go_sem, *]; rfl)); (focus (simp +decide (disch := first | decide | omega) only [go_sem, *]; done)); (with_unfolding_all (simp +decide (disch := first | decide | omega) only [go_sem, *]; rfl))) | (apply WP.condF; (focus (simp +decide (disch := first | decide | omega) only [go_sem, *]; done))))
    refine hc.mono ?_
    rintro r4 h5 ⟨rfl, hox5, hl5, hf5⟩
    clear hc
    have hb15 := (hf5 1 (by simp [idsOf])).trans hb14
    have hx5 := (hf5 h3.length (by simp [idsOf])).trans hx
    have hor5 : OwnAt h5 (.sl true []) 66 (eps []) := own_keep hor4 fun j hj => (hf5 j (by simp [idsOf])).trans hj
    clear hf5 hor4 hb14 hx hrow' hrow
    repeat' (with_reducible first | refine WP.seq ?_ | refine seqK_normal ?_ | (apply WP.regionX; with_unfolding_all rfl; (with_unfolding_all (simp +decide (disch := first | decide | omega) only [go_sem, *]; rfl))) | (apply opsT.call; (with_unfolding_all (simp +decide (disch := first | decide | omega) only [go_sem, *]; rfl)); (focus (simp +decide (disch := first | decide | omega) only [go_sem, *]; done)); (with_unfolding_all (simp +decide (disch := first | decide | omega) only [go_sem, *]; rfl))) | (apply opsT.fin; (with_unfolding_all (simp +decide (disch := first | decide | omega) only [go_sem, *]; rfl))))
    refine (tree_left [] [] _ h5 (hNall h5) hor5 (by simp)).mono ?_
    rintro r5 h6 ⟨hk6, hp6, hge6⟩
    have hk6' : OwnAt h6 r5 66 (eps []) := hk6
    have hb16 : h6[1]? = some (.row 31 [[.sl true [], .sl true []]]) := by rw [hp6.at (List.getElem?_eq_some_iff.1 hb15).1]; exact hb15
    have hx6 : h6[h3.length]? = some (.row 31 [[.sl false (ints []), .sl true []]]) := by rw [hp6.at (List.getElem?_eq_some_iff.1 hx5).1]; exact hx5
    clear hk6 hp6 hge6 hor5 hx5 hb15
    repeat' (with_reducible first | refine WP.seq ?_ | refine WP.block ?_ | refine seqK_normal ?_ | (apply WP.regionE; (with_unfolding_all (simp +decide (disch := first | decide | omega) only [go_sem, *]; rfl))) | (apply opsT.fin; (with_unfolding_all (simp +decide (disch := first | decide | omega) only [go_sem, *]; rfl))))
    refine WP.loop (fun s h => s 7 = .ep 1 0 0 ∧ s 8 = r5 ∧ s 9 = .ep h3.length 0 0 ∧ s 12 = .mp h6.length ∧ s 73 = .int .i64 0 ∧ s 74 = .int .i64 0 ∧ Pre h6 h ∧ SetAt h h6.length (usedP [])) (fun s _ => 0)
      ⟨by ((simp +decide (disch := first | decide | omega) only [go_sem, *]; done)), by (rfl), by ((simp +decide (disch := first | decide | omega) only [go_sem, *]; done)), by (rfl), by (rfl), by (rfl), ⟨_, rfl⟩, (SetAt.nil (h := h6)).congr fun u => by simp [usedP, memP]⟩ ?_
    clear g1 g7 g8 g9 g46 g47 s
    rintro s h ⟨g7, g8, g9, g12, g73, g74, hp, hs⟩
    have hk7 : OwnAt h r5 66 (eps []) := own_pre hk6' hp
    have hb17 : h[1]? = some (.row 31 [[.sl true [], .sl true []]]) := by rw [hp.at (List.getElem?_eq_some_iff.1 hb16).1]; exact hb16
    have hx7 : h[h3.length]? = some (.row 31 [[.sl false (ints []), .sl true []]]) := by rw [hp.at (List.getElem?_eq_some_iff.1 hx6).1]; exact hx6
    clear hk6' hb16 hx6
    repeat' (with_reducible first | refine WP.seq ?_ | refine WP.exit ?_ | refine seqK_normal ?_ | refine seqK_exit ?_ | refine loopK_exit ?_ | refine blockK_here ?_ | (apply WP.regionE; (with_unfolding_all (simp +decide (disch := first | decide | omega) only [go_sem, *]; rfl))) | (apply WP.regionX; with_unfolding_all rfl; (with_unfolding_all (simp +decide (disch := first | decide | omega) only [go_sem, *]; rfl))) | (apply opsT.call; (with_unfolding_all (simp +decide (disch := first | decide | omega) only [go_sem, *]; rfl)); (focus (simp +decide (disch := first | decide | omega) only [go_sem, *]; done)); (with_unfolding_all (simp +decide (disch := first | decide | omega) only [go_sem, *]; rfl))) | (apply WP.condF; (focus (simp +decide (disch := first | decide | omega) only [go_sem, *]; done))))
    refine (tree_name [] [] [] (2 * b.next.length) (usedP []) h6.length r5 h (hNall h) (by simp) hk7 hs (fun u hu => by simp [usedP, memP] at hu) (by omega) (by simp)).mono ?_
    rintro r9 h8 ⟨hN8, hl8, hf8⟩
    have hb18 := hf8 1 _ hb17 fun x hx => by simp at hx
    have hx8 := hf8 _ _ hx7 fun x hx => by simp at hx
    have hk8 : OwnAt h8 r5 66 (eps []) := own_keep hk7 fun j hj => hf8 j _ hj fun x hx => by simp at hx
    clear hf8 hN8 hs hk7 hb17 hx7
    rcases hk8 with ⟨rfl, hnil⟩ | ⟨kk, rfl, hrow8⟩
    · repeat' (with_reducible first | refine WP.seq ?_ | refine WP.block ?_ | refine seqK_normal ?_ | (apply WP.regionE; (with_unfolding_all (simp +decide (disch := first | decide | omega) only [go_sem, *]; rfl))) | (apply opsT.fin; (with_unfolding_all (simp +decide (disch := first | decide | omega) only [go_sem, *]; rfl))))
      refine WP.loop (fun s h => s 7 = .ep 1 0 0 ∧ s 9 = .ep h3.length 0 0 ∧ s 15 = .ow h8.length 0 0 ∧ s 89 = .int .i64 0 ∧ s 90 = .int .i64 0 ∧ h = h8 ++ [.row 43 []]) (fun s _ => 0)
        ⟨by ((simp +decide (disch := first | decide | omega) only [go_sem, *]; done)), by ((simp +decide (disch := first | decide | omega) only [go_sem, *]; done)), by (rfl), by (rfl), by (rfl), rfl⟩ ?_
      clear g7 g8 g9 g12 g73 g74 s
      rintro s h9 ⟨g7, g9, g15, g89, g90, rfl⟩
      have hx9 : (h8 ++ [HO.row 43 []])[h3.length]? = some (.row 31 [[.sl false (ints []), .sl true []]]) := by rw [List.getElem?_append_left (List.getElem?_eq_some_iff.1 hx8).1]; exact hx8
      have hb9 : (h8 ++ [HO.row 43 []])[1]? = some (.row 31 [[.sl true [], .sl true []]]) := by rw [List.getElem?_append_left (List.getElem?_eq_some_iff.1 hb18).1]; exact hb18
      have hliv : liveB (h8 ++ [HO.row 43 []]) 1 = true := by simp only [liveB, hb9, HO.live]
      have h8l : 1 < h8.length := (List.getElem?_eq_some_iff.1 hb18).1
      repeat' (with_reducible first | refine WP.seq ?_ | refine WP.exit ?_ | refine seqK_normal ?_ | refine seqK_exit ?_ | refine loopK_exit ?_ | refine blockK_here ?_ | (apply WP.regionE; (with_unfolding_all (simp +decide (disch := first | decide | omega) only [go_sem, *]; rfl))) | (apply WP.condF; (focus (simp +decide (disch := first | decide | omega) only [go_sem, *]; done))))
      refine WP.regionVX2 3 [1] mixed (by with_unfolding_all rfl) (by with_unfolding_all rfl) (by with_unfolding_all rfl) rfl (by with_unfolding_all rfl) ?_
      repeat' (with_reducible (apply opsV.fin; with_unfolding_all rfl; (with_unfolding_all (simp +decide (disch := first | decide | omega) only [go_sem, *]; rfl))))
      refine ⟨rfl, { x := .und, ws := [(1, .row 31 [[.sl false (ints []), .sl true []]])] }, ?e581, ?h581, ?g1181, ?g1281, ?g1381, ?g1481⟩
      case g1181 =>
        refine opE_store.trans ?_
        ((simp +decide (disch := first | decide | omega) only [go_sem, *]; done))
      case g1281 => simp [hliv]
      case g1381 =>
        simp +decide (disch := first | decide | omega) only [go_sem, *]
        rfl
      repeat' (with_reducible first | refine WP.ret ?_ | refine seqK_normal ?_)
      have hq1 : ((h8 ++ [HO.row 43 []]).set 1 (HO.row 31 [[.sl false (ints []), .sl true []]]))[1]? = some (HO.row 31 [[.sl false (ints []), .sl true []]]) := List.getElem?_set_self (by simp; omega)
      obtain ⟨y, hy1, hy2⟩ := rd_result (h := (h8 ++ [HO.row 43 []]).set 1 (HO.row 31 [[.sl false (ints []), .sl true []]])) (oid := h8.length) (m := 0) (O := []) (G := []) (B := []) (x := .sl true []) (by rw [List.getElem?_set_ne (by omega)]; simp [nds]) rfl (.inl ⟨rfl, rfl⟩)
      refine fnPost_ret (by simp +decide (disch := first | decide | omega) only [go_sem, *]) ⟨3, y, hy1, ?_⟩
      rw [hy2]; rfl
    · repeat' (with_reducible first | refine WP.seq ?_ | refine WP.block ?_ | refine seqK_normal ?_ | (apply WP.regionE; (with_unfolding_all (simp +decide (disch := first | decide | omega) only [go_sem, *]; rfl))) | (apply opsT.fin; (with_unfolding_all (simp +decide (disch := first | decide | omega) only [go_sem, *]; rfl))))
      refine WP.loop (fun s h => s 7 = .ep 1 0 0 ∧ s 9 = .ep h3.length 0 0 ∧ s 15 = .ow h8.length 0 0 ∧ s 89 = .int .i64 0 ∧ s 90 = .int .i64 0 ∧ h = h8 ++ [.row 43 []]) (fun s _ => 0)
        ⟨by ((simp +decide (disch := first | decide | omega) only [go_sem, *]; done)), by ((simp +decide (disch := first | decide | omega) only [go_sem, *]; done)), by (rfl), by (rfl), by (rfl), rfl⟩ ?_
      clear g7 g8 g9 g12 g73 g74 s
      rintro s h9 ⟨g7, g9, g15, g89, g90, rfl⟩
      have hx9 : (h8 ++ [HO.row 43 []])[h3.length]? = some (.row 31 [[.sl false (ints []), .sl true []]]) := by rw [List.getElem?_append_left (List.getElem?_eq_some_iff.1 hx8).1]; exact hx8
      have hb9 : (h8 ++ [HO.row 43 []])[1]? = some (.row 31 [[.sl true [], .sl true []]]) := by rw [List.getElem?_append_left (List.getElem?_eq_some_iff.1 hb18).1]; exact hb18
      have hliv : liveB (h8 ++ [HO.row 43 []]) 1 = true := by simp only [liveB, hb9, HO.live]
      have h8l : 1 < h8.length := (List.getElem?_eq_some_iff.1 hb18).1
      repeat' (with_reducible first | refine WP.seq ?_ | refine WP.exit ?_ | refine seqK_normal ?_ | refine seqK_exit ?_ | refine loopK_exit ?_ | refine blockK_here ?_ | (apply WP.regionE; (with_unfolding_all (simp +decide (disch := first | decide | omega) only [go_sem, *]; rfl))) | (apply WP.condF; (focus (simp +decide (disch := first | decide | omega) only [go_sem, *]; done))))
      refine WP.regionVX2 3 [1] mixed (by with_unfolding_all rfl) (by with_unfolding_all rfl) (by with_unfolding_all rfl) rfl (by with_unfolding_all rfl) ?_
      repeat' (with_reducible (apply opsV.fin; with_unfolding_all rfl; (with_unfolding_all (simp +decide (disch := first | decide | omega) only [go_sem, *]; rfl))))
      refine ⟨rfl, { x := .und, ws := [(1, .row 31 [[.sl false (ints []), .sl true []]])] }, ?e582, ?h582, ?g1182, ?g1282, ?g1382, ?g1482⟩
      case g1182 =>
        refine opE_store.trans ?_
        ((simp +decide (disch := first | decide | omega) only [go_sem, *]; done))
      case g1282 => simp [hliv]
      case g1382 =>
        simp +decide (disch := first | decide | omega) only [go_sem, *]
        rfl
      repeat' (with_reducible first | refine WP.ret ?_ | refine seqK_normal ?_)
      have hq1 : ((h8 ++ [HO.row 43 []]).set 1 (HO.row 31 [[.sl false (ints []), .sl true []]]))[1]? = some (HO.row 31 [[.sl false (ints []), .sl true []]]) := List.getElem?_set_self (by simp; omega)
      obtain ⟨y, hy1, hy2⟩ := rd_result (h := (h8 ++ [HO.row 43 []]).set 1 (HO.row 31 [[.sl false (ints []), .sl true []]])) (oid := h8.length) (m := 0) (O := []) (G := []) (B := []) (x := .sl true []) (by rw [List.getElem?_set_ne (by omega)]; simp [nds]) rfl (.inl ⟨rfl, rfl⟩)
      refine fnPost_ret (by simp +decide (disch := first | decide | omega) only [go_sem, *]) ⟨3, y, hy1, ?_⟩
      rw [hy2]; rfl
  · have hrow' : (h3 ++ [HO.row 31 [[.sl false (ints []), .sl true []]]])[k]? = some (.row 66 []) := by
      rw [List.getElem?_append_left (List.getElem?_eq_some_iff.1 hrow).1]; exact hrow
    repeat' (with_reducible first | refine WP.seq ?_ | refine WP.block ?_ | refine seqK_normal ?_ | (apply WP.regionE; (with_unfolding_all (simp +decide (disch := first | decide | omega) only [go_sem, *]; rfl))) | (apply opsT.fin; (with_unfolding_all (simp +decide (disch := first | decide | omega) only [go_sem, *]; rfl))))
    refine WP.loop (fun s h => s 1 = .sl false (nds []) ∧ s 7 = .ep 1 0 0 ∧ s 8 = .ow k 0 0 ∧ s 9 = .ep h3.length 0 0 ∧ s 46 = .int .i64 0 ∧ s 47 = .int .i64 0 ∧ h = h3 ++ [.row 31 [[.sl false (ints []), .sl true []]]]) (fun s _ => 0)
      ⟨by ((simp +decide (disch := first | decide | omega) only [go_sem, *]; done)), by (rfl), by (rfl), by (rfl), by (rfl), by (rfl), rfl⟩ ?_
    clear g0 g1 g2 s
    rintro s h4 ⟨g1, g7, g8, g9, g46, g47, rfl⟩
    have hx : (h3 ++ [HO.row 31 [[.sl false (ints []), .sl true []]]])[h3.length]? = some (.row 31 [[.sl false (ints []), .sl true []]]) := by simp
    have hor4 : OwnAt (h3 ++ [HO.row 31 [[.sl false (ints []), .sl true []]]]) (.ow k 0 0) 66 (eps []) := own_pre hor3 ⟨_, rfl⟩
    have hb14 : (h3 ++ [HO.row 31 [[.sl false (ints []), .sl true []]]])[1]? = some (.row 31 [[.sl true [], .sl true []]]) := by rw [List.getElem?_append_left hl31]; exact hb13
    have hox : OwnAt (h3 ++ [HO.row 31 [[.sl false (ints []), .sl true []]]]) (.sl true []) 3 (ints []) := .inl ⟨rfl, rfl⟩
    have hc := CallsH.sortOwn sorts sorts0 sz3 hox (by simp)
    repeat' (with_reducible first | refine WP.seq ?_ | refine WP.exit ?_ | refine seqK_normal ?_ | refine seqK_exit ?_ | refine loopK_exit ?_ | refine blockK_here ?_ | (apply WP.regionE; (with_unfolding_all (simp +decide (disch := first | decide | omega) only [go_sem, *]; rfl))) | (apply WP.regionX; with_unfolding_all rfl; (with_unfolding_all (simp +decide (disch := first | decide | omega) only [go_sem, *]; rfl))) | (apply opsT.call; (with_unfolding_all (simp +decide (disch := first | decide | omega) only [go_sem, *]; rfl)); (focus (simp +decide (disch := first | decide | omega) only [go_sem, *]; done)); (with_unfolding_all (simp +decide (disch := first | decide | omega) only [go_sem, *]; rfl))) | (apply WP.condF; (focus (simp +decide (disch := first | decide | omega) only [go_sem, *]; done))))
    refine hc.mono ?_
    rintro r4 h5 ⟨rfl, hox5, hl5, hf5⟩
    clear hc
    have hb15 := (hf5 1 (by simp [idsOf])).trans hb14
    have hx5 := (hf5 h3.length (by simp [idsOf])).trans hx
    have hor5 : OwnAt h5 (.ow k 0 0) 66 (eps []) := own_keep hor4 fun j hj => (hf5 j (by simp [idsOf])).trans hj
    clear hf5 hor4 hb14 hx hrow' hrow
    repeat' (with_reducible first | refine WP.seq ?_ | refine seqK_normal ?_ | (apply WP.regionX; with_unfolding_all rfl; (with_unfolding_all (simp +decide (disch := first | decide | omega) only [go_sem, *]; rfl))) | (apply opsT.call; (with_unfolding_all (simp +decide (disch := first | decide | omega) only [go_sem, *]; rfl)); (focus (simp +decide (disch := first | decide | omega) only [go_sem, *]; done)); (with_unfolding_all (simp +decide (disch := first | decide | omega) only [go_sem, *]; rfl))) | (apply opsT.fin; (with_unfolding_all (simp +decide (disch := first | decide | omega) only [go_sem, *]; rfl))))
    refine (tree_left [] [] _ h5 (hNall h5) hor5 (by simp)).mono ?_
    rintro r5 h6 ⟨hk6, hp6, hge6⟩
    have hk6' : OwnAt h6 r5 66 (eps []) := hk6
    have hb16 : h6[1]? = some (.row 31 [[.sl true [], .sl true []]]) := by rw [hp6.at (List.getElem?_eq_some_iff.1 hb15).1]; exact hb15
    have hx6 : h6[h3.length]? = some (.row 31 [[.sl false (ints []), .sl true []]]) := by rw [hp6.at (List.getElem?_eq_some_iff.1 hx5).1]; exact hx5
    clear hk6 hp6 hge6 hor5 hx5 hb15
    repeat' (with_reducible first | refine WP.seq ?_ | refine WP.block ?_ | refine seqK_normal ?_ | (apply WP.regionE; (with_unfolding_all (simp +decide (disch := first | decide | omega) only [go_sem, *]; rfl))) | (apply opsT.fin; (with_unfolding_all (simp +decide (disch := first | decide | omega) only [go_sem, *]; rfl))))
    refine WP.loop (fun s h => s 7 = .ep 1 0 0 ∧ s 8 = r5 ∧ s 9 = .ep h3.length 0 0 ∧ s 12 = .mp h6.length ∧ s 73 = .int .i64 0 ∧ s 74 = .int .i64 0 ∧ Pre h6 h ∧ SetAt h h6.length (usedP [])) (fun s _ => 0)
      ⟨by ((simp +decide (disch := first | decide | omega) only [go_sem, *]; done)), by (rfl), by ((simp +decide (disch := first | decide | omega) only [go_sem, *]; done)), by (rfl), by (rfl), by (rfl), ⟨_, rfl⟩, (SetAt.nil (h := h6)).congr fun u => by simp [usedP, memP]⟩ ?_
    clear g1 g7 g8 g9 g46 g47 s
    rintro s h ⟨g7, g8, g9, g12, g73, g74, hp, hs⟩
    have hk7 : OwnAt h r5 66 (eps []) := own_pre hk6' hp
    have hb17 : h[1]? = some (.row 31 [[.sl true [], .sl true []]]) := by rw [hp.at (List.getElem?_eq_some_iff.1 hb16).1]; exact hb16
    have hx7 : h[h3.length]? = some (.row 31 [[.sl false (ints []), .sl true []]]) := by rw [hp.at (List.getElem?_eq_some_iff.1 hx6).1]; exact hx6
    clear hk6' hb16 hx6
    repeat' (with_reducible first | refine WP.seq ?_ | refine WP.exit ?_ | refine seqK_normal ?_ | refine seqK_exit ?_ | refine loopK_exit ?_ | refine blockK_here ?_ | (apply WP.regionE; (with_unfolding_all (simp +decide (disch := first | decide | omega) only [go_sem, *]; rfl))) | (apply WP.regionX; with_unfolding_all rfl; (with_unfolding_all (simp +decide (disch := first | decide | omega) only [go_sem, *]; rfl))) | (apply opsT.call; (with_unfolding_all (simp +decide (disch := first | decide | omega) only [go_sem, *]; rfl)); (focus (simp +decide (disch := first | decide | omega) only [go_sem, *]; done)); (with_unfolding_all (simp +decide (disch := first | decide | omega) only [go_sem, *]; rfl))) | (apply WP.condF; (focus (simp +decide (disch := first | decide | omega) only [go_sem, *]; done))))
    refine (tree_name [] [] [] (2 * b.next.length) (usedP []) h6.length r5 h (hNall h) (by simp) hk7 hs (fun u hu => by simp [usedP, memP] at hu) (by omega) (by simp)).mono ?_
    rintro r9 h8 ⟨hN8, hl8, hf8⟩
    have hb18 := hf8 1 _ hb17 fun x hx => by simp at hx
    have hx8 := hf8 _ _ hx7 fun x hx => by simp at hx
    have hk8 : OwnAt h8 r5 66 (eps []) := own_keep hk7 fun j hj => hf8 j _ hj fun x hx => by simp at hx
    clear hf8 hN8 hs hk7 hb17 hx7
    rcases hk8 with ⟨rfl, hnil⟩ | ⟨kk, rfl, hrow8⟩
    · repeat' (with_reducible first | refine WP.seq ?_ | refine WP.block ?_ | refine seqK_normal ?_ | (apply WP.regionE; (with_unfolding_all (simp +decide (disch := first | decide | omega) only [go_sem, *]; rfl))) | (apply opsT.fin; (with_unfolding_all (simp +decide (disch := first | decide | omega) only [go_sem, *]; rfl))))
      refine WP.loop (fun s h => s 7 = .ep 1 0 0 ∧ s 9 = .ep h3.length 0 0 ∧ s 15 = .ow h8.length 0 0 ∧ s 89 = .int .i64 0 ∧ s 90 = .int .i64 0 ∧ h = h8 ++ [.row 43 []]) (fun s _ => 0)
        ⟨by ((simp +decide (disch := first | decide | omega) only [go_sem, *]; done)), by ((simp +decide (disch := first | decide | omega) only [go_sem, *]; done)), by (rfl), by (rfl), by (rfl), rfl⟩ ?_
      clear g7 g8 g9 g12 g73 g74 s
      rintro s h9 ⟨g7, g9, g15, g89, g90, rfl⟩
      have hx9 : (h8 ++ [HO.row 43 []])[h3.length]? = some (.row 31 [[.sl false (ints []), .sl true []]]) := by rw [List.getElem?_append_left (List.getElem?_eq_some_iff.1 hx8).1]; exact hx8
      have hb9 : (h8 ++ [HO.row 43 []])[1]? = some (.row 31 [[.sl true [], .sl true []]]) := by rw [List.getElem?_append_left (List.getElem?_eq_some_iff.1 hb18).1]; exact hb18
      have hliv : liveB (h8 ++ [HO.row 43 []]) 1 = true := by simp only [liveB, hb9, HO.live]
      have h8l : 1 < h8.length := (List.getElem?_eq_some_iff.1 hb18).1
      repeat' (with_reducible first | refine WP.seq ?_ | refine WP.exit ?_ | refine seqK_normal ?_ | refine seqK_exit ?_ | refine loopK_exit ?_ | refine blockK_here ?_ | (apply WP.regionE; (with_unfolding_all (simp +decide (disch := first | decide | omega) only [go_sem, *]; rfl))) | (apply WP.condF; (focus (simp +decide (disch := first | decide | omega) only [go_sem, *]; done))))
      refine WP.regionVX2 3 [1] mixed (by with_unfolding_all rfl) (by with_unfolding_all rfl) (by with_unfolding_all rfl) rfl (by with_unfolding_all rfl) ?_
      repeat' (with_reducible (apply opsV.fin; with_unfolding_all rfl; (with_unfolding_all (simp +decide (disch := first | decide | omega) only [go_sem, *]; rfl))))
      refine ⟨rfl, { x := .und, ws := [(1, .row 31 [[.sl false (ints []), .sl true []]])] }, ?e591, ?h591, ?g1191, ?g1291, ?g1391, ?g1491⟩
      case g1191 =>
        refine opE_store.trans ?_
        ((simp +decide (disch := first | decide | omega) only [go_sem, *]; done))
      case g1291 => simp [hliv]
      case g1391 =>
        simp +decide (disch := first | decide | omega) only [go_sem, *]
        rfl
      repeat' (with_reducible first | refine WP.ret ?_ | refine seqK_normal ?_)
      have hq1 : ((h8 ++ [HO.row 43 []]).set 1 (HO.row 31 [[.sl false (ints []), .sl true []]]))[1]? = some (HO.row 31 [[.sl false (ints []), .sl true []]]) := List.getElem?_set_self (by simp; omega)
      obtain ⟨y, hy1, hy2⟩ := rd_result (h := (h8 ++ [HO.row 43 []]).set 1 (HO.row 31 [[.sl false (ints []), .sl true []]])) (oid := h8.length) (m := 0) (O := []) (G := []) (B := []) (x := .sl true []) (by rw [List.getElem?_set_ne (by omega)]; simp [nds]) rfl (.inl ⟨rfl, rfl⟩)
      refine fnPost_ret (by simp +decide (disch := first | decide | omega) only [go_sem, *]) ⟨3, y, hy1, ?_⟩
      rw [hy2]; rfl
    · repeat' (with_reducible first | refine WP.seq ?_ | refine WP.block ?_ | refine seqK_normal ?_ | (apply WP.regionE; (with_unfolding_all (simp +decide (disch := first | decide | omega) only [go_sem, *]; rfl))) | (apply opsT.fin; (with_unfolding_all (simp +decide (disch := first | decide | omega) only [go_sem, *]; rfl))))
      refine WP.loop (fun s h => s 7 = .ep 1 0 0 ∧ s 9 = .ep h3.length 0 0 ∧ s 15 = .ow h8.length 0 0 ∧ s 89 = .int .i64 0 ∧ s 90 = .int .i64 0 ∧ h = h8 ++ [.row 43 []]) (fun s _ => 0)
        ⟨by ((simp +decide (disch := first | decide | omega) only [go_sem, *]; done)), by ((simp +decide (disch := first | decide | omega) only [go_sem, *]; done)), by (rfl), by (rfl), by (rfl), rfl⟩ ?_
      clear g7 g8 g9 g12 g73 g74 s
      rintro s h9 ⟨g7, g9, g15, g89, g90, rfl⟩
      have hx9 : (h8 ++ [HO.row 43 []])[h3.length]? = some (.row 31 [[.sl false (ints []), .sl true []]]) := by rw [List.getElem?_append_left (List.getElem?_eq_some_iff.1 hx8).1]; exact hx8
      have hb9 : (h8 ++ [HO.row 43 []])[1]? = some (.row 31 [[.sl true [], .sl true []]]) := by rw [List.getElem?_append_left (List.getElem?_eq_some_iff.1 hb18).1]; exact hb18
      have hliv : liveB (h8 ++ [HO.row 43 []]) 1 = true := by simp only [liveB, hb9, HO.live]
      have h8l : 1 < h8.length := (List.getElem?_eq_some_iff.1 hb18).1
      repeat' (with_reducible first | refine WP.seq ?_ | refine WP.exit ?_ | refine seqK_normal ?_ | refine seqK_exit ?_ | refine loopK_exit ?_ | refine blockK_here ?_ | (apply WP.regionE; (with_unfolding_all (simp +decide (disch := first | decide | omega) only [go_sem, *]; rfl))) | (apply WP.condF; (focus (simp +decide (disch := first | decide | omega) only [go_sem, *]; done))))
      refine WP.regionVX2 3 [1] mixed (by with_unfolding_all rfl) (by with_unfolding_all rfl) (by with_unfolding_all rfl) rfl (by with_unfolding_all rfl) ?_
      repeat' (with_reducible (apply opsV.fin; with_unfolding_all rfl; (with_unfolding_all (simp +decide (disch := first | decide | omega) only [go_sem, *]; rfl))))
      refine ⟨rfl, { x := .und, ws := [(1, .row 31 [[.sl false (ints []), .sl true []]])] }, ?e592, ?h592, ?g1192, ?g1292, ?g1392, ?g1492⟩
      case g1192 =>
        refine opE_store.trans ?_
        ((simp +decide (disch := first | decide | omega) only [go_sem, *]; done))
      case g1292 => simp [hliv]
      case g1392 =>
        simp +decide (disch := first | decide | omega) only [go_sem, *]
        rfl
      repeat' (with_reducible first | refine WP.ret ?_ | refine seqK_normal ?_)
      have hq1 : ((h8 ++ [HO.row 43 []]).set 1 (HO.row 31 [[.sl false (ints []), .sl true []]]))[1]? = some (HO.row 31 [[.sl false (ints []), .sl true []]]) := List.getElem?_set_self (by simp; omega)
      obtain ⟨y, hy1, hy2⟩ := rd_result (h := (h8 ++ [HO.row 43 []]).set 1 (HO.row 31 [[.sl false (ints []), .sl true []]])) (oid := h8.length) (m := 0) (O := []) (G := []) (B := []) (x := .sl true []) (by rw [List.getElem?_set_ne (by omega)]; simp [nds]) rfl (.inl ⟨rfl, rfl⟩)
      refine fnPost_ret (by simp +decide (disch := first | decide | omega) only [go_sem, *]) ⟨3, y, hy1, ?_⟩
      rw [hy2]; rfl

set_option maxHeartbeats 8000000 in
set_option maxRecDepth 8000 in
theorem tree_StepBad (b : Bu) (t : List Nd) (a : Int) (hvt : CallsP pg 19 [.agg (buC b), .sl false (nds t)] (fun v => v = .bool (validT b t))) (ho : ¬ okStep b t a) :
    CallsP pg 12 [.agg (buC b), .sl false (nds t), .int .i64 a] (fun v => v.dim = .tup [.sl false (nds []), .agg (evnC ⟨[], []⟩)]) := by
  refine CallsP.of_wpN [] 127 fn12 rfl rfl ?_
  refine WP.abs (fun s => s 0 = .agg (buC b) ∧ s 1 = .sl false (nds t) ∧ s 2 = .int .i64 a) ⟨rfl, rfl, rfl⟩ ?_
  rintro s ⟨g0, g1, g2⟩
  have hy : rdV [HO.row 25 [buC b], HO.row 31 [[HV.sl true [], HV.sl true []]]] 3 (.tup [.sl true [], .agg [.sl true [], .sl true []]]) = some (.tup [.sl true [], .agg [.sl true [], .sl true []]]) := rdV_free 3 (.tup [.sl true [], .agg [.sl true [], .sl true []]]) (by first | rfl | (simp [HV.free, freeL_all, freeLL_all]; done) | decide)
  repeat' (with_reducible first | refine WP.seq ?_ | refine WP.skip ?_ | refine WP.ret ?_ | refine seqK_normal ?_ | refine seqK_ret ?_ | (apply WP.regionE; (with_unfolding_all (simp +decide (disch := first | decide | omega) only [go_sem, *]; rfl))) | (apply WP.regionX; with_unfolding_all rfl; (with_unfolding_all (simp +decide (disch := first | decide | omega) only [go_sem, *]; rfl))) | (apply opsT.call; (with_unfolding_all (simp +decide (disch := first | decide | omega) only [go_sem, *]; rfl)); (focus (simp +decide (disch := first | decide | omega) only [go_sem, *]; done)); (with_unfolding_all (simp +decide (disch := first | decide | omega) only [go_sem, *]; rfl))) | (apply opsT.fin; (with_unfolding_all (simp +decide (disch := first | decide | omega) only [go_sem, *]; rfl))) | (apply CallsP.eq (hvt); (focus (simp +decide (disch := first | decide | omega) only [go_sem, *]; done))) | (apply WP.condT; (focus (simp +decide (disch := first | decide | omega) only [go_sem, *]; done))) | (apply WP.condB; (simp +decide (disch := first | decide | omega) only [go_sem, *]; rfl); all_goals (intro hb; (first | rw [dlt_t] at hb | rw [dlt_f] at hb | rw [dle_t] at hb | rw [dle_f] at hb | rw [Bool.not_eq_true'] at hb | rw [Bool.not_eq_false'] at hb | skip))) | (apply opsT.guardB 0; with_unfolding_all rfl; (with_unfolding_all (simp +decide (disch := first | decide | omega) only [go_sem, *]; rfl)); (simp +decide (disch := first | decide | omega) only [go_sem, *]; rfl); all_goals (intro hb; (fail_if_success (exact absurd hb (by decide))); (first | rw [dlt_t] at hb | rw [dlt_f] at hb | rw [dle_t] at hb | rw [dle_f] at hb | rw [Bool.not_eq_true'] at hb | rw [Bool.not_eq_false'] at hb | skip))) | (apply opsT.guardB 1; with_unfolding_all rfl; (with_unfolding_all (simp +decide (disch := first | decide | omega) only [go_sem, *]; rfl)); (simp +decide (disch := first | decide | omega) only [go_sem, *]; rfl); all_goals (intro hb; (fail_if_success (exact absurd hb (by decide))); (first | rw [dlt_t] at hb | rw [dlt_f] at hb | rw [dle_t] at hb | rw [dle_f] at hb | rw [Bool.not_eq_true'] at hb | rw [Bool.not_eq_false'] at hb | skip))))
  · exact fnPost_ret (by simp +decide (disch := first | decide | omega) only [go_sem, *]) ⟨3, _, hy, rfl⟩
  · exact fnPost_ret (by simp +decide (disch := first | decide | omega) only [go_sem, *]) ⟨3, _, hy, rfl⟩
  · exact fnPost_ret (by simp +decide (disch := first | decide | omega) only [go_sem, *]) ⟨3, _, hy, rfl⟩
  · exact absurd (show okStep b t a from ⟨by assumption, by omega, by omega⟩) ho

/-- Step, of any input. -/
theorem tree_Step (b : Bu) (t : List Nd) (a : Int) (hvt : CallsP pg 19 [.agg (buC b), .sl false (nds t)] (fun v => v = .bool (validT b t))) :
    CallsP pg 12 [.agg (buC b), .sl false (nds t), .int .i64 a] (fun v => v = .tup [.sl false (nds (stepT b t a).1), .agg (evnC (stepT b t a).2)]) := by
  refine CallsP.dimR ?_
  unfold stepT
  by_cases ho : okStep b t a
  · rw [if_pos ho]
    by_cases h0 : t.length = 0
    · have ht : t = [] := List.eq_nil_of_length_eq_zero h0
      subst ht
      have h1 : outS b [] a = [] := by rfl
      have h2 : evS b [] a = ⟨[], []⟩ := by
        show Evn.mk (sortI []) (sortI []) = _
        simp [sortI]
      rw [h1, h2]
      exact tree_StepNil b a hvt ho
    · exact tree_Step0 b t a hvt ho h0
  · rw [if_neg ho]
    exact tree_StepBad b t a hvt ho

end Go.Proofs.Ytonhbeapffiibaa

