/-
  Chapter 16: the fixed examples, and the check of them.
-/
import Derived.Test.YtonhbeapffiibaaTreV
import Derived.Test.YtonhbeapffiibaaLawPLawNLawS
namespace Go.Proofs.Ytonhbeapffiibaa
open Go.HL

def exT : List Nd := [⟨1, -1, [0, 1]⟩, ⟨2, 0, [1]⟩]

theorem sortI_nil : sortI [] = [] := by simp [sortI]
theorem sortI_one (x : Int) : sortI [x] = [x] := by simp [sortI]

theorem ex_start : startT exB = [⟨1, -1, [0]⟩] := by kernel_rfl
theorem ex_ok1 : okStep exB [⟨1, -1, [0]⟩] 0 := ⟨by kernel_rfl, by decide, by decide⟩
theorem ex_ok2 : okStep exB exT 0 := ⟨by kernel_rfl, by decide, by decide⟩
theorem ex_ok3 : okStep exB [⟨3, -1, [1]⟩] 0 := ⟨by kernel_rfl, by decide, by decide⟩
theorem ex_ok4 : ¬ okStep exB exT 1 := fun h => absurd h.2.2 (by decide)
theorem ex_out1 : outS exB [⟨1, -1, [0]⟩] 0 = exT := by kernel_rfl
theorem ex_out2 : outS exB exT 0 = exT := by kernel_rfl
theorem ex_out3 : outS exB [⟨3, -1, [1]⟩] 0 = [⟨3, -1, [1]⟩] := by kernel_rfl
theorem ex_good1 : goodsTo exB (trimTo (grown exB [⟨1, -1, [0]⟩] 0) (2 * 1)) (2 * 1) = [] := by kernel_rfl
theorem ex_good2 : goodsTo exB (trimTo (grown exB exT 0) (2 * 2)) (2 * 2) = [2] := by kernel_rfl
theorem ex_good3 : goodsTo exB (trimTo (grown exB [⟨3, -1, [1]⟩] 0) (2 * 1)) (2 * 1) = [3] := by kernel_rfl
theorem ex_bad1 : badsTo (flashed exB [⟨1, -1, [0]⟩] 0) 1 = [] := by kernel_rfl
theorem ex_bad2 : badsTo (flashed exB exT 0) 2 = [] := by kernel_rfl
theorem ex_bad3 : badsTo (flashed exB [⟨3, -1, [1]⟩] 0) 1 = [] := by kernel_rfl
theorem ex_step1 : stepT exB [⟨1, -1, [0]⟩] 0 = (exT, ⟨[], []⟩) := by
  rw [stepT, if_pos ex_ok1, ex_out1, evS]
  show (exT, (⟨sortI (goodsTo exB (trimTo (grown exB [⟨1, -1, [0]⟩] 0) (2 * 1)) (2 * 1)), sortI (badsTo (flashed exB [⟨1, -1, [0]⟩] 0) 1)⟩ : Evn)) = _
  rw [ex_good1, ex_bad1, sortI_nil]
theorem ex_step2 : stepT exB exT 0 = (exT, ⟨[2], []⟩) := by
  rw [stepT, if_pos ex_ok2, ex_out2, evS]
  show (exT, (⟨sortI (goodsTo exB (trimTo (grown exB exT 0) (2 * 2)) (2 * 2)), sortI (badsTo (flashed exB exT 0) 2)⟩ : Evn)) = _
  rw [ex_good2, ex_bad2, sortI_nil, sortI_one]
theorem ex_step3 : stepT exB [⟨3, -1, [1]⟩] 0 = ([⟨3, -1, [1]⟩], ⟨[3], []⟩) := by
  rw [stepT, if_pos ex_ok3, ex_out3, evS]
  show ([⟨3, -1, [1]⟩], (⟨sortI (goodsTo exB (trimTo (grown exB [⟨3, -1, [1]⟩] 0) (2 * 1)) (2 * 1)), sortI (badsTo (flashed exB [⟨3, -1, [1]⟩] 0) 1)⟩ : Evn)) = (([⟨3, -1, [1]⟩], ⟨[3], []⟩) : List Nd × Evn)
  rw [ex_good3, ex_bad3, sortI_nil, sortI_one]
theorem ex_step4 : stepT exB exT 1 = ([], ⟨[], []⟩) := by rw [stepT, if_neg ex_ok4]

theorem law_step (b : Bu) (t : List Nd) (a : Int) (ht : t.length ≤ 1000000) : CallsP pg 12 [.agg (buC b), .sl false (nds t), .int .i64 a] (fun v => v = .tup [.sl false (nds (stepT b t a).1), .agg (evnC (stepT b t a).2)]) := tree_Step b t a (tree_Valid b t ht)

def exV : HV := .sl true [[.int .i64 1, .int .i64 (-1), .sl true [[.int .i64 0], [.int .i64 1]]], [.int .i64 2, .int .i64 0, .sl true [[.int .i64 1]]]]

set_option maxHeartbeats 4000000 in
set_option maxRecDepth 20000 in
/-- The fixed examples have the results that are said. -/
theorem law_head : CallsP pg 9 [] (fun v => v = .bool true) := by
  have c17 : CallsP pg 17 [.agg (buC exB)] (fun v => v = .sl false (nds [⟨1, -1, [0]⟩])) := by
    have := tree_Start exB
    rwa [ex_start] at this
  have c121 : CallsP pg 12 [.agg (buC exB), .sl false (nds [⟨1, -1, [0]⟩]), .int .i64 0] (fun v => v = .tup [.sl false (nds exT), .agg (evnC ⟨[], []⟩)]) := by
    have := law_step exB [⟨1, -1, [0]⟩] 0 (by decide)
    rwa [ex_step1] at this
  have c122 : CallsP pg 12 [.agg (buC exB), .sl false (nds exT), .int .i64 0] (fun v => v = .tup [.sl false (nds exT), .agg (evnC ⟨[2], []⟩)]) := by
    have := law_step exB exT 0 (by decide)
    rwa [ex_step2] at this
  have c123 : CallsP pg 12 [.agg (buC exB), .sl true [[.int .i64 3, .int .i64 (-1), .sl true [[.int .i64 1]]]], .int .i64 0] (fun v => v = .tup [.sl false (nds [⟨3, -1, [1]⟩]), .agg (evnC ⟨[3], []⟩)]) := by
    have := law_step exB [⟨3, -1, [1]⟩] 0 (by decide)
    rw [ex_step3] at this
    exact CallsP.dimA this rfl
  have c124 : CallsP pg 12 [.agg (buC exB), .sl false (nds exT), .int .i64 1] (fun v => v = .tup [.sl false [], .agg (evnC ⟨[], []⟩)]) := by
    have := law_step exB exT 1 (by decide)
    rwa [ex_step4] at this
  have c161 : CallsP pg 16 [.sl false (nds [⟨1, -1, [0]⟩]), .sl true [[.int .i64 1, .int .i64 (-1), .sl true [[.int .i64 0]]]]] (fun v => v = .bool true) := CallsP.dimA (ref_Same [⟨1, -1, [0]⟩] [⟨1, -1, [0]⟩]) rfl
  have c162 : CallsP pg 16 [.sl false (nds exT), exV] (fun v => v = .bool true) := CallsP.dimA (ref_Same exT exT) rfl
  have c163 : CallsP pg 16 [.sl false (nds [⟨3, -1, [1]⟩]), .sl true [[.int .i64 3, .int .i64 (-1), .sl true [[.int .i64 1]]]]] (fun v => v = .bool true) := CallsP.dimA (ref_Same [⟨3, -1, [1]⟩] [⟨3, -1, [1]⟩]) rfl
  have c231 : CallsP pg 23 [.sl false (ints [2]), .sl true [[.int .i64 2]]] (fun v => v = .bool true) := CallsP.dimA (ref_Ints [2] [2]) rfl
  have c232 : CallsP pg 23 [.sl false (ints [3]), .sl true [[.int .i64 3]]] (fun v => v = .bool true) := CallsP.dimA (ref_Ints [3] [3]) rfl
  have c14 : CallsP pg 14 [.agg (buC exB)] (fun v => v = .int .i64 4) := tree_Names exB
  have c191 : CallsP pg 19 [.agg (buC exB), .sl false (nds exT)] (fun v => v = .bool true) := by
    have := tree_Valid exB exT (by decide)
    rwa [show validT exB exT = true by kernel_rfl] at this
  have c192 : CallsP pg 19 [.agg (buC exB), .sl true [[.int .i64 5, .int .i64 (-1), .sl true [[.int .i64 1]]]]] (fun v => v = .bool false) := by
    have := tree_Valid exB [⟨5, -1, [1]⟩] (by decide)
    rw [show validT exB [⟨5, -1, [1]⟩] = false by kernel_rfl] at this
    exact CallsP.dimA this rfl
  have c193 : CallsP pg 19 [.agg (buC exB), .sl true [[.int .i64 1, .int .i64 (-1), .sl true [[.int .i64 1]]], [.int .i64 2, .int .i64 0, .sl true [[.int .i64 1]]]]] (fun v => v = .bool false) := by
    have := tree_Valid exB [⟨1, -1, [1]⟩, ⟨2, 0, [1]⟩] (by decide)
    rw [show validT exB [⟨1, -1, [1]⟩, ⟨2, 0, [1]⟩] = false by kernel_rfl] at this
    exact CallsP.dimA this rfl
  refine CallsP.of_wpN [] 133 fn9 rfl rfl ?_
  refine WP.abs (fun _ => True) trivial ?_
  rintro s -
  unfold exV at c162
  have c32 := law_Example
  repeat' (with_reducible first | refine WP.seq ?_ | refine WP.ret ?_ | refine seqK_normal ?_ | (apply WP.regionE; (with_unfolding_all (simp +decide (disch := first | decide | omega) only [go_sem, *]; rfl))) | (apply WP.regionX; with_unfolding_all rfl; (with_unfolding_all (simp +decide (disch := first | decide | omega) only [go_sem, *]; rfl))) | (apply opsT.call; (with_unfolding_all (simp +decide (disch := first | decide | omega) only [go_sem, *]; rfl)); (focus (simp +decide (disch := first | decide | omega) only [go_sem, *]; done)); (with_unfolding_all (simp +decide (disch := first | decide | omega) only [go_sem, *]; rfl))) | (apply opsT.callG; (focus (simp +decide (disch := first | decide | omega) only [go_sem, *]; done)); (with_unfolding_all (simp +decide (disch := first | decide | omega) only [go_sem, *]; rfl)); (focus (simp +decide (disch := first | decide | omega) only [go_sem, *]; done)); (with_unfolding_all (simp +decide (disch := first | decide | omega) only [go_sem, *]; rfl))) | (apply opsT.moreX; with_unfolding_all rfl; (with_unfolding_all (simp +decide (disch := first | decide | omega) only [go_sem, *]; rfl))) | (apply opsT.fin; (with_unfolding_all (simp +decide (disch := first | decide | omega) only [go_sem, *]; rfl))) | (apply CallsP.eq (c32); (focus (simp +decide (disch := first | decide | omega) only [go_sem, *]; done))) | (apply CallsP.eq (c17); (focus (simp +decide (disch := first | decide | omega) only [go_sem, *]; done))) | (apply CallsP.eq (c121); (focus (simp +decide (disch := first | decide | omega) only [go_sem, *]; done))) | (apply CallsP.eq (c122); (focus (simp +decide (disch := first | decide | omega) only [go_sem, *]; done))) | (apply CallsP.eq (c123); (focus (simp +decide (disch := first | decide | omega) only [go_sem, *]; done))) | (apply CallsP.eq (c124); (focus (simp +decide (disch := first | decide | omega) only [go_sem, *]; done))) | (apply CallsP.eq (c161); (focus (simp +decide (disch := first | decide | omega) only [go_sem, *]; done))) | (apply CallsP.eq (c162); (focus (simp +decide (disch := first | decide | omega) only [go_sem, *]; done))) | (apply CallsP.eq (c163); (focus (simp +decide (disch := first | decide | omega) only [go_sem, *]; done))) | (apply CallsP.eq (c231); (focus (simp +decide (disch := first | decide | omega) only [go_sem, *]; done))) | (apply CallsP.eq (c232); (focus (simp +decide (disch := first | decide | omega) only [go_sem, *]; done))) | (apply CallsP.eq (c14); (focus (simp +decide (disch := first | decide | omega) only [go_sem, *]; done))) | (apply CallsP.eq (c191); (focus (simp +decide (disch := first | decide | omega) only [go_sem, *]; done))) | (apply CallsP.eq (c192); (focus (simp +decide (disch := first | decide | omega) only [go_sem, *]; done))) | (apply CallsP.eq (c193); (focus (simp +decide (disch := first | decide | omega) only [go_sem, *]; done))) | (apply fnPost_pure 0; (first | exact .inl rfl | exact .inr rfl); (simp +decide (disch := first | decide | omega) only [go_sem, *]; rfl); (simp +decide (disch := first | decide | omega) only [go_sem, *]; rfl)))
  rfl

end Go.Proofs.Ytonhbeapffiibaa

