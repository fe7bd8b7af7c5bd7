/-
  TreeRuns holds: for every automaton and finite word, the states of a node whose name is good are reached with a good move on the way, as the law says. No conditions.
-/
import Derived.Test.YtonhbeapffiibaaLawRW
import Derived.Test.YtonhbeapffiibaaShape
namespace Go.Proofs.Ytonhbeapffiibaa
open Go.HL Go.ChangeShapes Go.WideShapes Go.ChangeAt Go.RowKit

set_option maxRecDepth 100000 in
theorem lifted6 (os : Os) (started : os.Started) (H : Type) (enc : TypeId × Value → H) :
    ReturnsInHanded {} Try.checked os 6 .any (Rows.treeRunsSpec.pre6 enc Try.prog Try.f6 Rows.treeRunsRow.domain false) (Rows.treeRunsSpec.post enc Try.prog Try.f6 false true false false) := by
  refine returnsInHanded_of_change (C := Try.checked) own started (by kernel_rfl) Try.func6
    (ChangeSpec.witness6 (enc := enc) (C := Try.checked) false ⟨#[], #[.agg #[.int .i64 0, .slice none 0 0, .slice none 0 0], .slice none 0 0], []⟩ 8 (by kernel_rfl) (by kernel_rfl) (by kernel_rfl) (by kernel_rfl)) ?_
  intro W base args ds gs before hval hW _ _
  obtain ⟨p, q, hA, hV, hbe, hfz, hnd⟩ := id hW
  obtain ⟨hlen, hc⟩ := law_calls (X := pg) (fun _ => rfl) (f := 6) plainTs (by rw [Try.params6]; rfl) (fun j t v hj hv => hval j t v (by simpa using hj) hv) hA (fun xs hl hx => by
    rw [Try.params6] at hl hx
    match xs, hl with
    | [x0, x1], _ =>
      obtain ⟨a0, rfl⟩ := shBu (hx 0 _ x0 rfl rfl)
      obtain ⟨a1, rfl⟩ := shInts (hx 1 _ x1 rfl rfl)
      exact law_runs a0 a1)
  refine hc.mono fun e W' hp => ?_
  obtain ⟨rfl, hb⟩ := hp
  exact ⟨_, rfl, law_post hW rfl (fun hl => by rw [Try.params6] at hl; match ds, hl with | [_, _], _ => rfl) hlen (by kernel_rfl) un4 laidOut (by kernel_rfl) hb⟩

theorem tree_runs_holds : Rows.TreeRunsSaid :=
  OpenClaim.holds_of_wide 6 Try.f6 rfl rfl rfl rfl rfl rfl rfl ⟨rfl, rfl, rfl, rfl, rfl⟩ rfl rfl rfl rfl rfl (by kernel_rfl) Try.func6 (by kernel_rfl)
    (of_decide_eq_true (by kernel_rfl)) (by unfold Func.isWrapper; first | (rw [if_pos (by decide +kernel)]; kernel_rfl) | (rw [if_neg (by decide +kernel)]; exact ⟨rfl, rfl⟩))
    (fun os started H enc _ => lifted6 os started H enc)

end Go.Proofs.Ytonhbeapffiibaa

