/-
  Chapter 16: package tree: Valid: the same lists are trees as for the reference.
-/
import Derived.Test.YtonhbeapffiibaaValP
namespace Go.Proofs.Ytonhbeapffiibaa
open Go.HL

attribute [go_sem] mapsR_length

theorem opE_len {own : Bool} {ρ : Operand → HV} {h : Hp} {nid : Nat} {t : TypeId} {a : Operand} : opE pg own ρ h nid (.call ⟨.builtin .len, #[a], #[t]⟩) = (lenH pg.P h t (ρ a)).map fun x => { x := x } := rfl
theorem opE_makeSlice {own : Bool} {ρ : Operand → HV} {h : Hp} {nid : Nat} {t : TypeId} {l c : Operand} : opE pg own ρ h nid (.makeSlice t l c) = makeSliceH pg.P nid t (ρ l) (ρ c) := rfl

theorem nth_leftV {α : Type} [Inhabited α] {l m : List α} {k : Nat} (h : k < l.length) : nth (l ++ m) k = nth l k := by
  rw [nth_eq (by simp; omega), nth_eq h, List.getElem_append_left h]
theorem nth_lastV {α : Type} [Inhabited α] {l : List α} {x : α} {k : Nat} (h : k = l.length) : nth (l ++ [x]) k = x := by
  subst h
  rw [nth_eq (by simp)]; simp

theorem nodup_inj {l : List Nat} (hd : l.Nodup) {i j : Nat} (hi : i < l.length) (hj : j < l.length) (e : nth l i = nth l j) : i = j := by
  rw [nth_eq hi, nth_eq hj] at e
  rcases Nat.lt_trichotomy i j with h | h | h
  · exact absurd e (List.pairwise_iff_getElem.1 hd i j hi hj h)
  · exact h
  · exact absurd e.symm (List.pairwise_iff_getElem.1 hd j i hj hi h)

theorem badLeaf {b : Bu} {t : List Nd} (i : Nat) (hi : i < t.length) (h : ¬ okJ b.next.length t i) : HV.bool false = HV.bool (validT b t) := congrArg HV.bool (not_valid i hi h).symm

theorem SetAt.num {h : Hp} {id : Nat} {p : Int → Bool} (hs : SetAt h id p) {l : List Int} (hd : l.Nodup) (he : ∀ x, p x = true ↔ x ∈ l) : ∃ kvs clock, h[id]? = some (.map kvs clock) ∧ kvs.length ≤ l.length ∧ l.length ≤ kvs.length := by
  have hlen := hs.len hd he
  obtain ⟨kvs, clock, hk, h2⟩ := hs
  refine ⟨kvs, clock, hk, ?_⟩
  simp only [lenH, un68, hk] at hlen
  injection hlen with hlen; injection hlen with _ hlen
  omega

set_option maxHeartbeats 4000000 in
set_option maxRecDepth 8000 in
theorem tree_Valid (b : Bu) (t : List Nd) (ht : t.length ≤ 1000000) : CallsP pg 19 [.agg (buC b), .sl false (nds t)] (fun v => v = .bool (validT b t)) := by
  cases hv : validB b with
  | false =>
    refine CallsP.of_wpN [] 156 fn19 rfl rfl ?_
    refine WP.abs (fun s => s 0 = .agg (buC b) ∧ s 1 = .sl false (nds t)) ⟨rfl, rfl⟩ ?_
    rintro s ⟨h0, h1⟩
    repeat' (with_reducible first | refine WP.seq ?_ | refine WP.ret ?_ | refine seqK_normal ?_ | refine seqK_ret ?_ | (apply WP.regionE; (with_unfolding_all (simp +decide (disch := first | decide | omega) only [go_sem, *]; rfl))) | (apply WP.regionX; with_unfolding_all rfl; (with_unfolding_all (simp +decide (disch := first | decide | omega) only [go_sem, *]; rfl))) | (apply opsT.call; (with_unfolding_all (simp +decide (disch := first | decide | omega) only [go_sem, *]; rfl)); (focus (simp +decide (disch := first | decide | omega) only [go_sem, *]; done)); (with_unfolding_all (simp +decide (disch := first | decide | omega) only [go_sem, *]; rfl))) | (apply opsT.fin; (with_unfolding_all (simp +decide (disch := first | decide | omega) only [go_sem, *]; rfl))) | (apply CallsP.eq (go_BValid ..); (focus (simp +decide (disch := first | decide | omega) only [go_sem, *]; done))) | (apply WP.condT; (focus (simp +decide (disch := first | decide | omega) only [go_sem, *]; done))) | (apply fnPost_pure 0; (first | exact .inl rfl | exact .inr rfl); (simp +decide (disch := first | decide | omega) only [go_sem, *]; rfl); (simp +decide (disch := first | decide | omega) only [go_sem, *]; rfl)))
    exact congrArg HV.bool (by simp [validT, hv])
  | true =>
  have hv3 := (validB_iff.1 hv).1
  have hnm : CallsP pg 14 [.agg (buC b)] (fun v => v = .int .i64 (2 * b.next.length)) := by
    have := tree_Names b
    rwa [namesN, hv] at this
  refine CallsP.of_wpN [] 156 fn19 rfl rfl ?_
  refine WP.abs (fun s => s 0 = .agg (buC b) ∧ s 1 = .sl false (nds t)) ⟨rfl, rfl⟩ ?_
  rintro s ⟨h0, h1⟩
  refine WP.bnd 1 h1 fun hbd => ?_
  have hlen2 := (bnd_nds hbd).2
  clear hbd
  repeat' (with_reducible first | refine WP.seq ?_ | refine WP.skip ?_ | refine seqK_normal ?_ | (apply WP.regionE; (with_unfolding_all (simp +decide (disch := first | decide | omega) only [go_sem, *]; rfl))) | (apply WP.regionX; with_unfolding_all rfl; (with_unfolding_all (simp +decide (disch := first | decide | omega) only [go_sem, *]; rfl))) | (apply opsT.call; (with_unfolding_all (simp +decide (disch := first | decide | omega) only [go_sem, *]; rfl)); (focus (simp +decide (disch := first | decide | omega) only [go_sem, *]; done)); (with_unfolding_all (simp +decide (disch := first | decide | omega) only [go_sem, *]; rfl))) | (apply opsT.fin; (with_unfolding_all (simp +decide (disch := first | decide | omega) only [go_sem, *]; rfl))) | (apply CallsP.eq (go_BValid ..); (focus (simp +decide (disch := first | decide | omega) only [go_sem, *]; done))) | (apply WP.condF; (focus (simp +decide (disch := first | decide | omega) only [go_sem, *]; done))))
  refine WP.regionDA [] mixed (by with_unfolding_all rfl) ?_
  refine opsD.step (h1 := [HO.row 25 [buC b]]) (h2 := [HO.row 25 [buC b], .map [] 0]) (nw' := [[1]]) (r := { x := .mp 1, ns := [.map [] 0] }) [] (by with_unfolding_all rfl) (by with_unfolding_all rfl) rfl (by with_unfolding_all rfl) ?a1 rfl rfl rfl ?_
  case a1 => rfl
  refine opsD.seg 1 (j := 2) (nw' := [[1], []]) (by with_unfolding_all rfl) (by with_unfolding_all rfl) rfl rfl (by (with_unfolding_all (simp +decide (disch := first | decide | omega) only [go_sem, *]; rfl))) ?_
  refine opsD.step (h1 := [HO.row 25 [buC b], .gone]) (h2 := [HO.row 25 [buC b], .map [] 0]) (nw' := [[1], [], []]) (r := { x := .int .i64 t.length }) [1] (by with_unfolding_all rfl) (by with_unfolding_all rfl) rfl (by with_unfolding_all rfl) ?a2 rfl rfl rfl ?_
  case a2 => 
    refine opE_len.trans ?_
    ((simp +decide (disch := first | decide | omega) only [go_sem, *]; done))
  refine opsD.step (h1 := [HO.row 25 [buC b], .gone]) (h2 := [HO.row 25 [buC b], .map [] 0, .row 68 (mapsR [] t.length)]) (nw' := [[1], [], [], [2]]) (r := { x := .ow 2 0 t.length, ns := [.row 68 (mapsR [] t.length)] }) [1] (by with_unfolding_all rfl) (by with_unfolding_all rfl) rfl (by with_unfolding_all rfl) ?a3 rfl rfl rfl ?_
  case a3 =>
    rw [mapsR_zero]
    refine opE_makeSlice.trans ?_
    ((simp +decide (disch := first | decide | omega) only [go_sem, *]; done))
  refine opsD.seg 2 (j := 6) (nw' := [[1], [], [], [2], [], []]) (by with_unfolding_all rfl) (by with_unfolding_all rfl) rfl rfl (by (with_unfolding_all (simp +decide (disch := first | decide | omega) only [go_sem, *]; rfl))) ?_
  refine opsD.fin (by with_unfolding_all rfl) ?_
  repeat' (with_reducible first | refine WP.seq ?_ | refine WP.block ?_ | refine seqK_normal ?_ | (apply WP.regionE; (with_unfolding_all (simp +decide (disch := first | decide | omega) only [go_sem, *]; rfl))))
  refine WP.loop (fun s h => s 1 = .sl false (nds t) ∧ s 2 = .ep 0 0 0 ∧ s 5 = .mp 1 ∧ s 6 = .ow 2 0 t.length ∧ s 18 = .sl false (nds t) ∧ s 19 = .int .i64 t.length ∧ ∃ i : Nat, s 20 = .int .i64 i ∧ i ≤ t.length ∧ ∃ ids : List Nat, ids.length = i ∧ h[0]? = some (.row 25 [buC b]) ∧ SetAt h 1 (memP ((t.take i).map (·.name))) ∧ h[2]? = some (.row 68 (mapsR ids t.length)) ∧ ids.Nodup ∧ (∀ k ∈ ids, 3 ≤ k) ∧ (∀ j, j < i → SetAt h (nth ids j) (memP (kids (t.take i) j))) ∧ ∀ j, j < i → okJ b.next.length t j) (fun s _ => t.length - (s 20).toInt.toNat)
    ⟨by ((simp +decide (disch := first | decide | omega) only [go_sem, *]; done)), by (rfl), by (rfl), by (rfl), by (rfl), by (rfl), 0, by simp +decide (disch := first | decide | omega) only [go_sem, *]; rfl, by omega, [], rfl, rfl, ?_, rfl, by simp, by simp, by intro j hj; omega, by intro j hj; omega⟩ ?_
  · have := SetAt.nil (h := [HO.row 25 [buC b]])
    exact (this.app [.row 68 (mapsR [] t.length)]).congr fun u => by simp [memP]
  clear h0 h1 s
  rintro s h ⟨h1, h2, h5, h6, h18, h19, i, h20, hi, ids, hil, hr0, hs1, hr2, hnd, hge, hch, hpre⟩
  have h2l : 2 < h.length := (List.getElem?_eq_some_iff.1 hr2).1
  by_cases hlt : i < t.length
  · repeat' (with_reducible first | refine WP.seq ?_ | refine WP.skip ?_ | refine WP.block ?_ | refine WP.exit ?_ | refine WP.ret ?_ | refine seqK_normal ?_ | refine seqK_exit ?_ | refine loopK_exit ?_ | refine blockK_here ?_ | (apply WP.regionE; (with_unfolding_all (simp +decide (disch := first | decide | omega) only [go_sem, *]; rfl))) | (apply WP.regionX; with_unfolding_all rfl; (with_unfolding_all (simp +decide (disch := first | decide | omega) only [go_sem, *]; rfl))) | (apply opsT.call; (with_unfolding_all (simp +decide (disch := first | decide | omega) only [go_sem, *]; rfl)); (focus (simp +decide (disch := first | decide | omega) only [go_sem, *]; done)); (with_unfolding_all (simp +decide (disch := first | decide | omega) only [go_sem, *]; rfl))) | (apply WP.condB; (simp +decide (disch := first | decide | omega) only [go_sem, *]; rfl); all_goals (intro hb; (first | rw [dlt_t] at hb | rw [dlt_f] at hb | rw [dle_t] at hb | rw [dle_f] at hb | rw [Bool.not_eq_true'] at hb | rw [Bool.not_eq_false'] at hb | skip))) | (apply fnPost_pure 0; (first | exact .inl rfl | exact .inr rfl); (simp +decide (disch := first | decide | omega) only [go_sem, *]; rfl); (simp +decide (disch := first | decide | omega) only [go_sem, *]; rfl)))
    · have hl1 : (h ++ [HO.row 43 [ndC (nth t i)]]).length = h.length + 1 := by simp
      have hx1 : (h ++ [HO.row 43 [ndC (nth t i)]])[h.length]? = some (.row 43 [ndC (nth t i)]) := by simp
      have hp1 : Pre h (h ++ [HO.row 43 [ndC (nth t i)]]) := ⟨_, rfl⟩
      refine (tree_of (nth t i).set _).mono ?_
      rintro r h3 ⟨rfl, o, ho, hs3⟩
      have hp3 : Pre h h3 := by rw [ho]; exact hp1.app _
      have hx3 : h3[h.length]? = some (.row 43 [ndC (nth t i)]) := by rw [ho, List.getElem?_append_left (by omega)]; exact hx1
      have hl3 : h3.length = h.length + 2 := by rw [ho]; simp
      rw [hl1] at hs3
      clear ho hx1 hp1 o
      have hr3 : (h3 ++ [HO.map [] 0])[2]? = some (.row 68 (mapsR ids t.length)) := by rw [(hp3.app _).at h2l]; exact hr2
      have hml : (mapsR ids t.length).length = t.length := mapsR_length (by omega)
      have hcell : (mapsR ids t.length)[i]? = some [.nul (.map none)] := by rw [← hil]; exact mapsR_cell (by omega)
      have hset : ∀ k, (mapsR ids t.length).set i [.mp k] = mapsR (ids ++ [k]) t.length := fun k => by rw [← hil]; exact mapsR_set (by omega) k
      have hil2 := hil
      clear hil
      repeat' (with_reducible first | refine WP.seq ?_ | refine WP.block ?_ | refine seqK_normal ?_ | (apply WP.regionE; (with_unfolding_all (simp +decide (disch := first | decide | omega) only [go_sem, *]; rfl))) | (apply opsT.fin; (with_unfolding_all (simp +decide (disch := first | decide | omega) only [go_sem, *]; rfl))))
      refine WP.absH (fun s' h' => s' 1 = .sl false (nds t) ∧ s' 2 = .ep 0 0 0 ∧ s' 5 = .mp 1 ∧ s' 6 = .ow 2 0 t.length ∧ s' 7 = .int .i64 i ∧ s' 8 = .ep h.length 0 0 ∧ s' 9 = .mp (h.length + 1) ∧ s' 18 = .sl false (nds t) ∧ s' 19 = .int .i64 t.length ∧ s' 20 = .int .i64 i ∧ h' = (h3 ++ [HO.map [] 0]).set 2 (.row 68 (mapsR (ids ++ [h3.length]) t.length)))
        ⟨by ((simp +decide (disch := first | decide | omega) only [go_sem, *]; done)), by ((simp +decide (disch := first | decide | omega) only [go_sem, *]; done)), by ((simp +decide (disch := first | decide | omega) only [go_sem, *]; done)), by ((simp +decide (disch := first | decide | omega) only [go_sem, *]; done)), by (rfl), by (rfl), by (rfl), by ((simp +decide (disch := first | decide | omega) only [go_sem, *]; done)), by ((simp +decide (disch := first | decide | omega) only [go_sem, *]; done)), by ((simp +decide (disch := first | decide | omega) only [go_sem, *]; done)), by ((simp +decide (disch := first | decide | omega) only [go_sem, *]; done))⟩ ?_
      rintro s' H ⟨k1, k2, k5, k6, k7, k8, k9, k18, k19, k20, hH⟩
      have hHl : H.length ≤ h.length + 3 ∧ h.length + 3 ≤ H.length := by rw [hH]; simp; omega
      have hHf : ∀ j, j ≠ 2 → H[j]? = (h3 ++ [HO.map [] 0])[j]? := fun j hj => by rw [hH, List.getElem?_set_ne (Ne.symm hj)]
      have hHp : ∀ j, j ≠ 2 → j < h.length → H[j]? = h[j]? := fun j hj hjl => by rw [hHf j hj, (hp3.app _).at hjl]
      have hH2 : H[2]? = some (.row 68 (mapsR (ids ++ [h3.length]) t.length)) := by rw [hH]; exact List.getElem?_set_self (by simp; omega)
      have hH0 : H[0]? = some (.row 25 [buC b]) := by rw [hHp 0 (by omega) (by omega)]; exact hr0
      have hH1 : SetAt H 1 (memP ((t.take i).map (·.name))) := hs1.keep (hHp 1 (by omega) (by omega))
      have hHx : H[h.length]? = some (.row 43 [ndC (nth t i)]) := by rw [hHf _ (by omega), List.getElem?_append_left (by omega)]; exact hx3
      have hHs : SetAt H (h.length + 1) (memP (nth t i).set) := hs3.keep (by rw [hHf _ (by omega), List.getElem?_append_left (by omega)])
      have hHc : ∀ j, j < i → SetAt H (nth ids j) (memP (kids (t.take i) j)) := fun j hj => by
        have hk := hge _ (nth_mem (l := ids) (k := j) (by omega))
        exact (hch j hj).keep (hHp _ (by omega) (hch j hj).lt)
      have hHn : SetAt H (h.length + 2) (fun _ => false) := by
        have : SetAt (h3 ++ [HO.map [] 0]) h3.length (fun _ => false) := SetAt.nil
        rw [hl3] at this
        exact this.keep (hHf _ (by omega))
      rw [hl3] at hH2
      have hids : ∀ k ∈ ids, k < h.length := fun k hk => by
        obtain ⟨j, hj, rfl⟩ := List.getElem_of_mem hk
        have := (hch j (by omega)).lt
        rwa [nth_eq hj] at this
      clear hH hHf hHp h1 h2 h5 h6 h18 h19 hset hcell hml hr3 hl3 hx3 hp3 hs3 hl1 hr2 hs1 hr0 hb hch
      clear h3
      have hlk := hH1.look (nth t i).name
      obtain ⟨m, m1, m2, m3, m4, m5⟩ := dedup_ex (nth t i).set
      have hmeml : (memP ((t.take i).map (·.name)) (nth t i).name) = true ↔ ∃ k, k < i ∧ (nth t k).name = (nth t i).name := by
        simp only [memP, List.contains_iff_mem, List.mem_map]
        constructor
        · rintro ⟨x, hx, e⟩
          obtain ⟨k, hk, rfl⟩ := List.getElem_of_mem hx
          simp only [List.length_take] at hk
          rw [List.getElem_take] at e
          exact ⟨k, by omega, by rw [nth_eq (by omega)]; exact e⟩
        · rintro ⟨k, hk, e⟩
          exact ⟨nth t k, by rw [nth_eq (by omega)]; exact List.mem_take_iff_getElem.2 ⟨k, by omega, rfl⟩, e⟩
      obtain ⟨kvs, clock, hsk, hsk2⟩ := hHs.num m1 (fun x => by simp [memP, m2])
      have hlen := hlen2 i hlt
      by_cases hne : (nth t i).set.length = 0
      · have hbn : okJ b.next.length t i → False := fun h => by have := h.1; unfold okH at this; omega
        have hbd : decide (((nth t i).set.length : Int) = 0) = true := by rw [hne]; rfl
        repeat' (with_reducible first | refine WP.seq ?_ | refine WP.ret ?_ | refine seqK_normal ?_ | refine seqK_ret ?_ | refine loopK_ret ?_ | refine blockK_ret ?_ | (apply WP.regionE; (with_unfolding_all (simp +decide (disch := first | decide | omega) only [go_sem, *]; rfl))) | (apply WP.regionVX mixed; with_unfolding_all rfl; with_unfolding_all rfl; with_unfolding_all rfl; (with_unfolding_all (simp +decide (disch := first | decide | omega) only [go_sem, *]; rfl))) | (apply opsV.skipG; (focus (simp +decide (disch := first | decide | omega) only [go_sem, *]; done))) | (apply opsV.callG; (focus (simp +decide (disch := first | decide | omega) only [go_sem, *]; done)); (with_unfolding_all (simp +decide (disch := first | decide | omega) only [go_sem, *]; rfl)); (focus (simp +decide (disch := first | decide | omega) only [go_sem, *]; done)); (with_unfolding_all (simp +decide (disch := first | decide | omega) only [go_sem, *]; rfl)); exact (hnm); (focus (simp +decide (disch := first | decide | omega) only [go_sem, *]; done))) | (apply opsV.fin; with_unfolding_all rfl; (with_unfolding_all (simp +decide (disch := first | decide | omega) only [go_sem, *]; rfl))) | (apply WP.condT; (focus (simp +decide (disch := first | decide | omega) only [go_sem, *]; done))) | (apply WP.condB; (simp +decide (disch := first | decide | omega) only [go_sem, *]; rfl); all_goals (intro hb; (first | rw [dlt_t] at hb | rw [dlt_f] at hb | rw [dle_t] at hb | rw [dle_f] at hb | rw [Bool.not_eq_true'] at hb | rw [Bool.not_eq_false'] at hb | skip))) | (apply fnPost_pure 0; (first | exact .inl rfl | exact .inr rfl); (simp +decide (disch := first | decide | omega) only [go_sem, *]; rfl); (simp +decide (disch := first | decide | omega) only [go_sem, *]; rfl)) | (apply WP.guardB 0; with_unfolding_all rfl; (with_unfolding_all (simp +decide (disch := first | decide | omega) only [go_sem, *]; rfl)); (simp +decide (disch := first | decide | omega) only [go_sem, *]; rfl); all_goals (intro hb; (fail_if_success (exact absurd hb (by decide))); (first | rw [dlt_t] at hb | rw [dlt_f] at hb | rw [dle_t] at hb | rw [dle_f] at hb | rw [Bool.not_eq_true'] at hb | rw [Bool.not_eq_false'] at hb | skip))) | (apply opsV.guardB 1; with_unfolding_all rfl; (with_unfolding_all (simp +decide (disch := first | decide | omega) only [go_sem, *]; rfl)); (simp +decide (disch := first | decide | omega) only [go_sem, *]; rfl); all_goals (intro hb; (fail_if_success (exact absurd hb (by decide))); (first | rw [dlt_t] at hb | rw [dlt_f] at hb | rw [dle_t] at hb | rw [dle_f] at hb | rw [Bool.not_eq_true'] at hb | rw [Bool.not_eq_false'] at hb | skip))))
        all_goals exact badLeaf i hlt hbn
      have hne0 : 0 < (nth t i).set.length := by omega
      have hbd : decide (((nth t i).set.length : Int) = 0) = false := decide_eq_false (by omega)
      clear hne
      repeat' (with_reducible first | refine WP.seq ?_ | refine WP.skip ?_ | refine WP.ret ?_ | refine seqK_normal ?_ | refine seqK_ret ?_ | refine loopK_ret ?_ | refine blockK_normal ?_ | refine blockK_ret ?_ | (apply WP.regionE; (with_unfolding_all (simp +decide (disch := first | decide | omega) only [go_sem, *]; rfl))) | (apply WP.regionVX mixed; with_unfolding_all rfl; with_unfolding_all rfl; with_unfolding_all rfl; (with_unfolding_all (simp +decide (disch := first | decide | omega) only [go_sem, *]; rfl))) | (apply opsV.skipG; (focus (simp +decide (disch := first | decide | omega) only [go_sem, *]; done))) | (apply opsV.callG; (focus (simp +decide (disch := first | decide | omega) only [go_sem, *]; done)); (with_unfolding_all (simp +decide (disch := first | decide | omega) only [go_sem, *]; rfl)); (focus (simp +decide (disch := first | decide | omega) only [go_sem, *]; done)); (with_unfolding_all (simp +decide (disch := first | decide | omega) only [go_sem, *]; rfl)); exact (hnm); (focus (simp +decide (disch := first | decide | omega) only [go_sem, *]; done))) | (apply opsV.callG; (focus (simp +decide (disch := first | decide | omega) only [go_sem, *]; done)); (with_unfolding_all (simp +decide (disch := first | decide | omega) only [go_sem, *]; rfl)); (focus (simp +decide (disch := first | decide | omega) only [go_sem, *]; done)); (with_unfolding_all (simp +decide (disch := first | decide | omega) only [go_sem, *]; rfl)); exact (go_IsSorted ..); (focus (simp +decide (disch := first | decide | omega) only [go_sem, *]; done))) | (apply opsV.fin; with_unfolding_all rfl; (with_unfolding_all (simp +decide (disch := first | decide | omega) only [go_sem, *]; rfl))) | (apply WP.condT; (focus (simp +decide (disch := first | decide | omega) only [go_sem, *]; done))) | (apply WP.condB; (simp +decide (disch := first | decide | omega) only [go_sem, *]; rfl); all_goals (intro hb; (first | rw [dlt_t] at hb | rw [dlt_f] at hb | rw [dle_t] at hb | rw [dle_f] at hb | rw [Bool.not_eq_true'] at hb | rw [Bool.not_eq_false'] at hb | skip))) | (apply fnPost_pure 0; (first | exact .inl rfl | exact .inr rfl); (simp +decide (disch := first | decide | omega) only [go_sem, *]; rfl); (simp +decide (disch := first | decide | omega) only [go_sem, *]; rfl)) | (apply WP.guardB 0; with_unfolding_all rfl; (with_unfolding_all (simp +decide (disch := first | decide | omega) only [go_sem, *]; rfl)); (simp +decide (disch := first | decide | omega) only [go_sem, *]; rfl); all_goals (intro hb; (fail_if_success (exact absurd hb (by decide))); (first | rw [dlt_t] at hb | rw [dlt_f] at hb | rw [dle_t] at hb | rw [dle_f] at hb | rw [Bool.not_eq_true'] at hb | rw [Bool.not_eq_false'] at hb | skip))) | (apply WP.guardB 1; with_unfolding_all rfl; (with_unfolding_all (simp +decide (disch := first | decide | omega) only [go_sem, *]; rfl)); (simp +decide (disch := first | decide | omega) only [go_sem, *]; rfl); all_goals (intro hb; (fail_if_success (exact absurd hb (by decide))); (first | rw [dlt_t] at hb | rw [dlt_f] at hb | rw [dle_t] at hb | rw [dle_f] at hb | rw [Bool.not_eq_true'] at hb | rw [Bool.not_eq_false'] at hb | skip))) | (apply opsV.guardB 1; with_unfolding_all rfl; (with_unfolding_all (simp +decide (disch := first | decide | omega) only [go_sem, *]; rfl)); (simp +decide (disch := first | decide | omega) only [go_sem, *]; rfl); all_goals (intro hb; (fail_if_success (exact absurd hb (by decide))); (first | rw [dlt_t] at hb | rw [dlt_f] at hb | rw [dle_t] at hb | rw [dle_f] at hb | rw [Bool.not_eq_true'] at hb | rw [Bool.not_eq_false'] at hb | skip))) | (apply opsV.guardB 2; with_unfolding_all rfl; (with_unfolding_all (simp +decide (disch := first | decide | omega) only [go_sem, *]; rfl)); (simp +decide (disch := first | decide | omega) only [go_sem, *]; rfl); all_goals (intro hb; (fail_if_success (exact absurd hb (by decide))); (first | rw [dlt_t] at hb | rw [dlt_f] at hb | rw [dle_t] at hb | rw [dle_f] at hb | rw [Bool.not_eq_true'] at hb | rw [Bool.not_eq_false'] at hb | skip))))
      any_goals
        refine badLeaf i hlt fun hJ => ?_
        have q1 := hJ.1
        unfold okH at q1
        have q2 := okE_iff.1 (hJ.2.1 0 hne0)
        have q3 := okE_iff.1 (hJ.2.1 ((nth t i).set.length - 1) (by omega))
        have q4 := m5 (pw_nodup (okE_pw hJ.2.1))
        have q5 := strict_rises (okE_pw hJ.2.1)
        first
          | omega
          | (rw [q5] at hb; cases hb)
          | (have e : decide ((i : Int) = 0) = decide ((nth t i).par = -1) := decide_eq_decide.2 q1.2.2.2.1
             rw [e] at hb; simp at hb; done)
          | (obtain ⟨k, hk, hkn⟩ := hmeml.1 hb; exact (okP_iff.1 (hJ.2.2.1 k hk)).1 hkn)
      rename_i e1 e2 e3 e4 e5 e6 e7 e8 e9
      have hH : okH b.next.length t i := by
        have e4 : decide ((i : Int) = 0) = decide ((nth t i).par = -1) := by simpa using e8
        exact ⟨by omega, by omega, by omega, decide_eq_decide.1 e4, by omega, by omega⟩
      have hpw : (nth t i).set.Pairwise (· < ·) := rises_strict e5 (m4 (by omega))
      have hrg : ∀ k, k < (nth t i).set.length → 0 ≤ nth (nth t i).set k ∧ nth (nth t i).set k < b.next.length := fun k hk => by
        have p1 : nth (nth t i).set 0 ≤ nth (nth t i).set k := by
          by_cases e : k = 0
          · rw [e]; omega
          · have := pw_nth hpw (show 0 < k by omega) hk; omega
        have p2 : nth (nth t i).set k ≤ nth (nth t i).set ((nth t i).set.length - 1) := by
          by_cases e : k = (nth t i).set.length - 1
          · rw [← e]; omega
          · have := pw_nth hpw (show k < (nth t i).set.length - 1 by omega) (by omega); omega
        omega
      have hnames : ∀ k, k < i → (nth t k).name ≠ (nth t i).name := fun k hk e => by
        rw [hmeml.2 ⟨k, hk, e⟩] at e3; cases e3
      clear e1 e2 e3 e4 e5 e6 e7 e8 e9 hb hbd hsk2 hsk m5 m4 m3 m2 m1 hmeml
      clear clock hlk
      have hu := hH
      unfold okH at hu
      obtain ⟨_, _, _, hu4, hu5, hu6⟩ := hu
      have hkidi : kids (t.take i) (i : Int) = [] := List.eq_nil_iff_forall_not_mem.2 fun q hq => by
        obtain ⟨k, hk, hkp, _⟩ := (mem_kids (by omega)).1 hq
        have := (hpre k hk).1
        unfold okH at this
        omega
      have hnd' : (ids ++ [h.length + 2]).Nodup := by
        rw [List.nodup_append]
        refine ⟨hnd, by simp, fun a ha c hc e => ?_⟩
        simp at hc
        have := hids a ha
        omega
      have hge' : ∀ k ∈ ids ++ [h.length + 2], 3 ≤ k := fun k hk => by
        simp at hk
        rcases hk with hk | hk
        · exact hge k hk
        · omega
      have hnl : nth (ids ++ [h.length + 2]) i = h.length + 2 := nth_lastV hil2.symm
      have hnj : ∀ j, j < i → nth (ids ++ [h.length + 2]) j = nth ids j := fun j hj => nth_leftV (by omega)
      have hp0x : 0 < i → 0 ≤ (nth t i).par := fun h => by
        by_cases e : (nth t i).par = -1
        · have := hu4.2 e; omega
        · omega
      have hpmx : ¬ 0 < i → (nth t i).par < 0 := fun h => by
        have := hu4.1 (by omega); omega
      clear hu4 hu6
      obtain ⟨o, hput, hput2⟩ := hH1.put (nth t i).name
      have hnm2 : ∀ h' : Hp, h'[1]? = some o → SetAt h' 1 (memP ((t.take (i + 1)).map (·.name))) := fun h' hh => (hput2 h' hh).congr fun u => by
        rw [take_nth hlt]; simp [memP]
      clear hput2 hH1
      have hend : ∀ Hf : Hp, Hf[0]? = some (.row 25 [buC b]) → Hf[1]? = some o → Hf[2]? = some (.row 68 (mapsR (ids ++ [h.length + 2]) t.length)) → (∀ j, j < i + 1 → SetAt Hf (nth (ids ++ [h.length + 2]) j) (memP (kids (t.take (i + 1)) j))) → okJ b.next.length t i →
          ∃ ids : List Nat, ids.length = i + 1 ∧ Hf[0]? = some (.row 25 [buC b]) ∧ SetAt Hf 1 (memP ((t.take (i + 1)).map (·.name))) ∧ Hf[2]? = some (.row 68 (mapsR ids t.length)) ∧ ids.Nodup ∧ (∀ k ∈ ids, 3 ≤ k) ∧ (∀ j, j < i + 1 → SetAt Hf (nth ids j) (memP (kids (t.take (i + 1)) j))) ∧ ∀ j, j < i + 1 → okJ b.next.length t j := fun Hf f0 f1 f2 f3 f4 =>
        ⟨_, by rw [List.length_append, hil2]; rfl, f0, hnm2 Hf f1, f2, hnd', hge', f3, fun j hj => by
          by_cases e : j = i
          · rw [e]; exact f4
          · exact hpre j (by omega)⟩
      clear hnm2 hnd' hge'
      by_cases hi0 : 0 < i
      · have hiz : decide ((i : Int) = 0) = false := decide_eq_false (by omega)
        have hp0 := hp0x hi0
        clear hpmx hp0x
        have hplt : (nth t i).par.toNat < t.length := by omega
        have h1x : (H.set 1 o)[h.length]? = some (.row 43 [ndC (nth t i)]) := by rw [List.getElem?_set_ne (by omega)]; exact hHx
        repeat' (with_reducible first | refine WP.seq ?_ | refine WP.skip ?_ | refine seqK_normal ?_ | (apply WP.regionE; (with_unfolding_all (simp +decide (disch := first | decide | omega) only [go_sem, *]; rfl))) | (apply WP.regionX; with_unfolding_all rfl; (with_unfolding_all (simp +decide (disch := first | decide | omega) only [go_sem, *]; rfl))) | (apply opsT.call; (with_unfolding_all (simp +decide (disch := first | decide | omega) only [go_sem, *]; rfl)); (focus (simp +decide (disch := first | decide | omega) only [go_sem, *]; done)); (with_unfolding_all (simp +decide (disch := first | decide | omega) only [go_sem, *]; rfl))) | (apply WP.condF; (focus (simp +decide (disch := first | decide | omega) only [go_sem, *]; done))))
        clear h1x
        obtain ⟨P, hP⟩ : ∃ P, P = (nth t (nth t i).par.toNat).set := ⟨_, rfl⟩
        rw [← hP]
        refine (tree_of P _).mono ?_
        rintro r H2 ⟨rfl, o2, hH2e, hs2⟩
        obtain ⟨H1, hH1e⟩ : ∃ H1, H1 = H.set 1 o := ⟨_, rfl⟩
        have f1 : H1[1]? = some o := by rw [hH1e]; exact List.getElem?_set_self (by omega)
        have f2 : H1[2]? = some (.row 68 (mapsR (ids ++ [h.length + 2]) t.length)) := by rw [hH1e, List.getElem?_set_ne (by omega)]; exact hH2
        have f0 : H1[0]? = some (.row 25 [buC b]) := by rw [hH1e, List.getElem?_set_ne (by omega)]; exact hH0
        have fx : H1[h.length]? = some (.row 43 [ndC (nth t i)]) := by rw [hH1e, List.getElem?_set_ne (by omega)]; exact hHx
        have fs : SetAt H1 (h.length + 1) (memP (nth t i).set) := hHs.keep (by rw [hH1e, List.getElem?_set_ne (by omega)])
        have fn : SetAt H1 (h.length + 2) (fun _ => false) := hHn.keep (by rw [hH1e, List.getElem?_set_ne (by omega)])
        have fc : ∀ j, j < i → SetAt H1 (nth ids j) (memP (kids (t.take i) j)) := fun j hj => (hHc j hj).keep (by
          have := hge _ (nth_mem (l := ids) (k := j) (by omega))
          rw [hH1e, List.getElem?_set_ne (by omega)])
        have fl : H1.length ≤ h.length + 3 ∧ h.length + 3 ≤ H1.length := by rw [hH1e]; simp; omega
        rw [← hH1e] at hH2e hs2 ⊢
        clear hH1e hHl hH2 hH0 hHx hHs hHc hHn hput
        have hp2 : Pre H1 H2 := ⟨_, hH2e⟩
        have hl2 : H1.length < H2.length := by rw [hH2e]; simp
        clear hH2e
        have hwi := tree_within (memP (nth t i).set) (memP P) (nth t i).set H2 (h.length + 1) H1.length (fs.keep (hp2.at (by omega))) hs2 (fun x => by simp [memP])
        repeat' (with_reducible (apply opsT.call; (with_unfolding_all (simp +decide (disch := first | decide | omega) only [go_sem, *]; rfl)); (focus (simp +decide (disch := first | decide | omega) only [go_sem, *]; done)); (with_unfolding_all (simp +decide (disch := first | decide | omega) only [go_sem, *]; rfl))))
        refine hwi.mono ?_
        rintro r H3 ⟨rfl, o3, hH3e⟩
        have hp3 : Pre H1 H3 := hp2.trans ⟨_, hH3e⟩
        clear hwi hH3e hp2 hs2 hl2 hiz
        replace f0 : H3[0]? = some (.row 25 [buC b]) := by rw [hp3.at (by omega)]; exact f0
        replace f1 : H3[1]? = some o := by rw [hp3.at (by omega)]; exact f1
        replace f2 : H3[2]? = some (.row 68 (mapsR (ids ++ [h.length + 2]) t.length)) := by rw [hp3.at (by omega)]; exact f2
        replace fx : H3[h.length]? = some (.row 43 [ndC (nth t i)]) := by rw [hp3.at (by omega)]; exact fx
        replace fs : SetAt H3 (h.length + 1) (memP (nth t i).set) := fs.keep (hp3.at (by omega))
        replace fn : SetAt H3 (h.length + 2) (fun _ => false) := fn.keep (hp3.at (by omega))
        replace fc : ∀ j, j < i → SetAt H3 (nth ids j) (memP (kids (t.take i) j)) := fun j hj => (fc j hj).keep (hp3.at (fc j hj).lt)
        replace fl : h.length + 3 ≤ H3.length := by have := hp3.len; omega
        clear hp3 H2 o2 o3
        obtain ⟨kvs3, clock3, hr3, hR⟩ := fs.rng
        have hidp : nth ids (nth t i).par.toNat < h.length ∧ 3 ≤ nth ids (nth t i).par.toNat := ⟨hids _ (nth_mem (by omega)), hge _ (nth_mem (by omega))⟩
        have hpe : (((nth t i).par.toNat : Nat) : Int) = (nth t i).par := by omega
        have fcp := fc (nth t i).par.toNat (by omega)
        rw [hpe] at fcp
        have hpar2 : ∀ j : Nat, j ≠ (nth t i).par.toNat → ¬ (nth t i).par = j := fun j hj => by omega
        clear hpe
        have hcp : (mapsR (ids ++ [h.length + 2]) t.length)[(nth t i).par.toNat]? = some [.mp (nth ids (nth t i).par.toNat)] := by
          rw [mapsR_get (by simp; omega), hnj _ (by omega)]
        have hml : (mapsR (ids ++ [h.length + 2]) t.length).length = t.length := mapsR_length (by simp; omega)
        repeat' (with_reducible first | refine WP.seq ?_ | refine WP.skip ?_ | refine WP.block ?_ | refine WP.ret ?_ | refine seqK_normal ?_ | refine seqK_ret ?_ | refine loopK_ret ?_ | refine blockK_ret ?_ | (apply WP.regionE; (with_unfolding_all (simp +decide (disch := first | decide | omega) only [go_sem, *]; rfl))) | (apply opsT.fin; (with_unfolding_all (simp +decide (disch := first | decide | omega) only [go_sem, *]; rfl))) | (apply WP.condB; (simp +decide (disch := first | decide | omega) only [go_sem, *]; rfl); all_goals (intro hb; (first | rw [dlt_t] at hb | rw [dlt_f] at hb | rw [dle_t] at hb | rw [dle_f] at hb | rw [Bool.not_eq_true'] at hb | rw [Bool.not_eq_false'] at hb | skip))) | (apply fnPost_pure 0; (first | exact .inl rfl | exact .inr rfl); (simp +decide (disch := first | decide | omega) only [go_sem, *]; rfl); (simp +decide (disch := first | decide | omega) only [go_sem, *]; rfl)))
        · refine badLeaf i hlt fun hJ => ?_
          have hall : (nth t i).set.all (memP (nth t (nth t i).par.toNat).set) = true := List.all_eq_true.2 fun q hq => by
            have := (okE_mem hJ.2.1 hq).2 hi0
            simpa [memP] using this
          rw [hall] at hb
          cases hb
        have hwt : ∀ q ∈ (nth t i).set, q ∈ (nth t (nth t i).par.toNat).set := fun q hq => by
          simpa [memP] using List.all_eq_true.1 hb q hq
        clear hP hb
        refine WP.loop (fun s h5 => s 1 = .sl false (nds t) ∧ s 2 = .ep 0 0 0 ∧ s 5 = .mp 1 ∧ s 6 = .ow 2 0 t.length ∧ s 8 = .ep h.length 0 0 ∧ s 18 = .sl false (nds t) ∧ s 19 = .int .i64 t.length ∧ s 20 = .int .i64 i ∧ s 123 = .it H3.length ∧ h5[0]? = some (.row 25 [buC b]) ∧ h5[1]? = some o ∧ h5[2]? = some (.row 68 (mapsR (ids ++ [h.length + 2]) t.length)) ∧ h5[h.length]? = some (.row 43 [ndC (nth t i)]) ∧ SetAt h5 (h.length + 2) (fun _ => false) ∧ (∀ j, j < i → j ≠ (nth t i).par.toNat → SetAt h5 (nth ids j) (memP (kids (t.take i) j))) ∧
            ∃ seen, RngS h5 H3.length (h.length + 1) (memP (nth t i).set) seen ∧ SetAt h5 (nth ids (nth t i).par.toNat) (fun q => memP (kids (t.take i) (nth t i).par) q || seen q) ∧ (∀ q, seen q = true → q ∈ (nth t i).set ∧ ¬ q ∈ kids (t.take i) (nth t i).par)) (fun _ h5 => leftN h5 H3.length)
          ⟨by ((simp +decide (disch := first | decide | omega) only [go_sem, *]; done)), by ((simp +decide (disch := first | decide | omega) only [go_sem, *]; done)), by ((simp +decide (disch := first | decide | omega) only [go_sem, *]; done)), by ((simp +decide (disch := first | decide | omega) only [go_sem, *]; done)), by ((simp +decide (disch := first | decide | omega) only [go_sem, *]; done)), by ((simp +decide (disch := first | decide | omega) only [go_sem, *]; done)), by ((simp +decide (disch := first | decide | omega) only [go_sem, *]; done)), by ((simp +decide (disch := first | decide | omega) only [go_sem, *]; done)), by (rfl), ?_, ?_, ?_, ?_, fn.app _, fun j hj _ => (fc j hj).app _, _, hR, ?_, ?_⟩ ?_
        · rw [List.getElem?_append_left (by omega)]; exact f0
        · rw [List.getElem?_append_left (by omega)]; exact f1
        · rw [List.getElem?_append_left (by omega)]; exact f2
        · rw [List.getElem?_append_left (by omega)]; exact fx
        · exact (fcp.app _).congr fun u => by simp
        · intro q hq; cases hq
        clear k1 k2 k5 k6 k7 k8 k9 k18 k19 k20 f0 f1 f2 fx fn fc fcp fs hr3 hR s'
        rintro s' h5 ⟨k1, k2, k5, k6, k8, k18, k19, k20, k123, f0, f1, f2, fx, fn, fc, seen, hR, hsp, hseen⟩
        repeat' (with_reducible refine WP.seq ?_)
        refine WP.region ?_
        refine opsT.nextS (it := H3.length) (by simp +decide (disch := first | decide | omega) only [go_sem, *]) hR (by omega) (fun hall => ?_) (fun q h6 hq hns hR' hent hlt6 hlen6 hfr6 => ?_)
        · have hK : kids (t.take (i + 1)) (nth t i).par = kids (t.take i) (nth t i).par ++ (nth t i).set := by rw [kids_succ hlt, if_pos rfl]
          have hE : ∀ k, k < (nth t i).set.length → okE b.next.length t i k = true := fun k hk => okE_iff.2 ⟨hrg k hk, fun h0 => pw_nth hpw (by omega) hk, fun _ => hwt _ (nth_mem hk)⟩
          have hPp : ∀ k, k < i → okP t i k = true := fun k hk => okP_iff.2 ⟨hnames k hk, fun e q hq hqk => (hseen q (hall q (by simpa [memP] using hq))).2 ((mem_kids (by omega)).2 ⟨k, hk, e, hqk⟩)⟩
          have hnk : (kids (t.take (i + 1)) (nth t i).par).Nodup := kids_nodup (n := b.next.length) (i + 1) (by omega) (fun j hj => by
            by_cases e : j = i
            · subst e; exact ⟨hE, hPp⟩
            · exact ⟨(hpre j (by omega)).2.1, (hpre j (by omega)).2.2.1⟩) _
          have hcg : ∀ u, (memP (kids (t.take i) (nth t i).par) u || seen u) = memP (kids (t.take (i + 1)) (nth t i).par) u := fun u => by
            have : seen u = memP (nth t i).set u := by
              rw [Bool.eq_iff_iff]
              exact ⟨fun h => by simpa [memP] using (hseen u h).1, hall u⟩
            rw [this, hK]; simp [memP]
          have hsp2 := hsp.congr hcg
          have hle : (kids (t.take (i + 1)) (nth t i).par).length ≤ (nth t (nth t i).par.toNat).set.length := nodup_le hnk fun q hq => by
            obtain ⟨k, hk, hkp, hkq⟩ := (mem_kids (by omega)).1 hq
            by_cases e : k = i
            · subst e; exact hwt q hkq
            · have hk0 : 0 < k := by
                have := (hpre k (by omega)).1
                unfold okH at this
                omega
              have := (okE_mem (hpre k (by omega)).2.1 hkq).2 hk0
              rwa [hkp] at this
          obtain ⟨kvs6, clock6, hk6, hk6l⟩ := hsp2.num hnk (fun x => by simp [memP])
          clear hwt hK hcg hsp hnk hseen hall hR hlen2
          repeat' (with_reducible first | refine WP.seq ?_ | refine WP.skip ?_ | refine WP.exit ?_ | refine WP.ret ?_ | refine seqK_normal ?_ | refine seqK_exit ?_ | refine seqK_ret ?_ | refine loopK_exit ?_ | refine loopK_ret ?_ | refine blockK_normal ?_ | refine blockK_here ?_ | refine blockK_ret ?_ | (apply WP.regionE; (with_unfolding_all (simp +decide (disch := first | decide | omega) only [go_sem, *]; rfl))) | (apply WP.regionV1 mixed; with_unfolding_all rfl; with_unfolding_all rfl; (with_unfolding_all (simp +decide (disch := first | decide | omega) only [go_sem, *]; rfl))) | (apply opsT.fin; (with_unfolding_all (simp +decide (disch := first | decide | omega) only [go_sem, *]; rfl))) | (apply WP.condF; (focus (simp +decide (disch := first | decide | omega) only [go_sem, *]; done))) | (apply WP.condB; (simp +decide (disch := first | decide | omega) only [go_sem, *]; rfl); all_goals (intro hb; (first | rw [dlt_t] at hb | rw [dlt_f] at hb | rw [dle_t] at hb | rw [dle_f] at hb | rw [Bool.not_eq_true'] at hb | rw [Bool.not_eq_false'] at hb | skip))) | (apply fnPost_pure 0; (first | exact .inl rfl | exact .inr rfl); (simp +decide (disch := first | decide | omega) only [go_sem, *]; rfl); (simp +decide (disch := first | decide | omega) only [go_sem, *]; rfl)))
          · refine badLeaf i hlt fun hJ => ?_
            have := hJ.2.2.2 hi0
            simp only [decide_eq_true_eq] at hb
            omega
          · simp only [decide_eq_false_iff_not] at hb
            refine loopK_normal ⟨by ((simp +decide (disch := first | decide | omega) only [go_sem, *]; done)), by ((simp +decide (disch := first | decide | omega) only [go_sem, *]; done)), by ((simp +decide (disch := first | decide | omega) only [go_sem, *]; done)), by ((simp +decide (disch := first | decide | omega) only [go_sem, *]; done)), by ((simp +decide (disch := first | decide | omega) only [go_sem, *]; done)), by ((simp +decide (disch := first | decide | omega) only [go_sem, *]; done)), i + 1, by simp +decide (disch := first | decide | omega) only [go_sem, *]; rfl, by omega, hend _ f0 f1 f2 ?_ ⟨hH, hE, hPp, fun _ => by omega⟩⟩ (by simp +decide (disch := first | decide | omega) only [go_sem, *]; omega)
            intro j hj
            by_cases e : j = i
            · subst e
              rw [hnl]
              refine fn.congr fun u => ?_
              rw [kids_succ hlt, if_neg (by omega), hkidi]; simp [memP]
            · rw [hnj j (by omega)]
              by_cases e2 : j = (nth t i).par.toNat
              · have : ((j : Nat) : Int) = (nth t i).par := by omega
                rw [this, e2]; exact hsp2
              · have := fc j (by omega) e2
                rw [kids_succ hlt, if_neg (hpar2 j e2), List.append_nil]
                exact this
        · have g0 : h6[0]? = some (.row 25 [buC b]) := by rw [hfr6 _ (by omega)]; exact f0
          have g1 : h6[1]? = some o := by rw [hfr6 _ (by omega)]; exact f1
          have g2 : h6[2]? = some (.row 68 (mapsR (ids ++ [h.length + 2]) t.length)) := by rw [hfr6 _ (by omega)]; exact f2
          have gx : h6[h.length]? = some (.row 43 [ndC (nth t i)]) := by rw [hfr6 _ (by omega)]; exact fx
          have gn : SetAt h6 (h.length + 2) (fun _ => false) := fn.keep (hfr6 _ (by omega))
          have gc : ∀ j, j < i → j ≠ (nth t i).par.toNat → SetAt h6 (nth ids j) (memP (kids (t.take i) j)) := fun j hj hne => (fc j hj hne).keep (hfr6 _ (by
            have := hids _ (nth_mem (l := ids) (k := j) (by omega)); omega))
          have gp := hsp.keep (hfr6 _ (by omega))
          have hlk := gp.look q
          simp only [hns, Bool.or_false] at hlk
          obtain ⟨o6, hput6, hput62⟩ := gp.put q
          have hidl : nth ids (nth t i).par.toNat < h6.length := gp.lt
          clear hsp gp fc fn f0 f1 f2 fx hfr6 hR hlen6 hlen2
          repeat' (with_reducible first | refine WP.seq ?_ | refine WP.skip ?_ | refine WP.block ?_ | refine WP.ret ?_ | refine seqK_normal ?_ | refine seqK_ret ?_ | refine loopK_ret ?_ | refine blockK_normal ?_ | refine blockK_ret ?_ | (apply WP.regionE; (with_unfolding_all (simp +decide (disch := first | decide | omega) only [go_sem, *]; rfl))) | (apply opsT.fin; (with_unfolding_all (simp +decide (disch := first | decide | omega) only [go_sem, *]; rfl))) | (apply WP.condT; (focus (simp +decide (disch := first | decide | omega) only [go_sem, *]; done))) | (apply WP.condB; (simp +decide (disch := first | decide | omega) only [go_sem, *]; rfl); all_goals (intro hb; (first | rw [dlt_t] at hb | rw [dlt_f] at hb | rw [dle_t] at hb | rw [dle_f] at hb | rw [Bool.not_eq_true'] at hb | rw [Bool.not_eq_false'] at hb | skip))) | (apply fnPost_pure 0; (first | exact .inl rfl | exact .inr rfl); (simp +decide (disch := first | decide | omega) only [go_sem, *]; rfl); (simp +decide (disch := first | decide | omega) only [go_sem, *]; rfl)))
          · refine badLeaf i hlt fun hJ => ?_
            have hqk : q ∈ kids (t.take i) (nth t i).par := by simpa [memP] using hb
            obtain ⟨k, hk, hkp, hkq⟩ := (mem_kids (by omega)).1 hqk
            exact (okP_iff.1 (hJ.2.2.1 k hk)).2 hkp q (by simpa [memP] using hq) hkq
          · have hkp := hR'.keep (h' := h6.set (nth ids (nth t i).par.toNat) o6) (List.getElem?_set_ne (by omega)) (List.getElem?_set_ne (by omega))
            refine loopK_normal ⟨by ((simp +decide (disch := first | decide | omega) only [go_sem, *]; done)), by ((simp +decide (disch := first | decide | omega) only [go_sem, *]; done)), by ((simp +decide (disch := first | decide | omega) only [go_sem, *]; done)), by ((simp +decide (disch := first | decide | omega) only [go_sem, *]; done)), by ((simp +decide (disch := first | decide | omega) only [go_sem, *]; done)), by ((simp +decide (disch := first | decide | omega) only [go_sem, *]; done)), by ((simp +decide (disch := first | decide | omega) only [go_sem, *]; done)), by ((simp +decide (disch := first | decide | omega) only [go_sem, *]; done)), by ((simp +decide (disch := first | decide | omega) only [go_sem, *]; done)), ?_, ?_, ?_, ?_, ?_, ?_, _, hkp.1, (hput62 _ (List.getElem?_set_self hidl)).congr fun u => by rw [Bool.or_assoc], ?_⟩ ?_
            · rw [List.getElem?_set_ne (by omega)]; exact g0
            · rw [List.getElem?_set_ne (by omega)]; exact g1
            · rw [List.getElem?_set_ne (by omega)]; exact g2
            · rw [List.getElem?_set_ne (by omega)]; exact gx
            · exact gn.keep (List.getElem?_set_ne (by omega))
            · intro j hj hne
              refine (gc j hj hne).keep (List.getElem?_set_ne fun e => hne ?_)
              exact (nodup_inj hnd (by omega) (by omega) e).symm
            · intro u hu
              simp only [Bool.or_eq_true, decide_eq_true_eq] at hu
              rcases hu with hu | rfl
              · exact hseen u hu
              · exact ⟨by simpa [memP] using hq, fun hm => by
                  have : memP (kids (t.take i) (nth t i).par) u = true := by simpa [memP] using hm
                  rw [this] at hb; cases hb⟩
            · show leftN _ _ < _
              have := hkp.2
              omega
      · have hiz : decide ((i : Int) = 0) = true := decide_eq_true (by omega)
        have hpm := hpmx hi0
        clear hpmx hp0x
        repeat' (with_reducible first | refine WP.seq ?_ | refine WP.exit ?_ | refine seqK_normal ?_ | refine seqK_exit ?_ | refine blockK_here ?_ | (apply WP.regionE; (with_unfolding_all (simp +decide (disch := first | decide | omega) only [go_sem, *]; rfl))) | (apply WP.condT; (focus (simp +decide (disch := first | decide | omega) only [go_sem, *]; done))))
        refine loopK_normal ⟨by ((simp +decide (disch := first | decide | omega) only [go_sem, *]; done)), by ((simp +decide (disch := first | decide | omega) only [go_sem, *]; done)), by ((simp +decide (disch := first | decide | omega) only [go_sem, *]; done)), by ((simp +decide (disch := first | decide | omega) only [go_sem, *]; done)), by ((simp +decide (disch := first | decide | omega) only [go_sem, *]; done)), by ((simp +decide (disch := first | decide | omega) only [go_sem, *]; done)), i + 1, by simp +decide (disch := first | decide | omega) only [go_sem, *]; rfl, by omega, hend _ ?_ ?_ ?_ ?_ ?_⟩ (by simp +decide (disch := first | decide | omega) only [go_sem, *]; omega)
        · rw [List.getElem?_set_ne (by omega)]; exact hH0
        · exact List.getElem?_set_self (by omega)
        · rw [List.getElem?_set_ne (by omega)]; exact hH2
        · intro j hj
          obtain rfl : j = i := by omega
          rw [hnl]
          refine (hHn.keep (List.getElem?_set_ne (by omega))).congr fun u => ?_
          rw [kids_succ hlt, if_neg (by omega), hkidi]; simp [memP]
        · refine ⟨hH, fun k hk => okE_iff.2 ⟨hrg k hk, fun h0 => pw_nth hpw (by omega) hk, fun h => by omega⟩, fun k hk => by omega, fun h => by omega⟩
    · omega
  · repeat' (with_reducible first | refine WP.seq ?_ | refine WP.skip ?_ | refine WP.block ?_ | refine WP.exit ?_ | refine WP.ret ?_ | refine seqK_normal ?_ | refine seqK_exit ?_ | refine loopK_exit ?_ | refine blockK_here ?_ | (apply WP.regionE; (with_unfolding_all (simp +decide (disch := first | decide | omega) only [go_sem, *]; rfl))) | (apply WP.condB; (simp +decide (disch := first | decide | omega) only [go_sem, *]; rfl); all_goals (intro hb; (first | rw [dlt_t] at hb | rw [dlt_f] at hb | rw [dle_t] at hb | rw [dle_f] at hb | rw [Bool.not_eq_true'] at hb | rw [Bool.not_eq_false'] at hb | skip))) | (apply fnPost_pure 0; (first | exact .inl rfl | exact .inr rfl); (simp +decide (disch := first | decide | omega) only [go_sem, *]; rfl); (simp +decide (disch := first | decide | omega) only [go_sem, *]; rfl)))
    · omega
    · have hit : i = t.length := by omega
      subst hit
      exact congrArg HV.bool (valid_of hv hpre).symm

end Go.Proofs.Ytonhbeapffiibaa

