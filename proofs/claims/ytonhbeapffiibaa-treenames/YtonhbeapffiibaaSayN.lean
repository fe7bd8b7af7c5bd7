/-
  TreeNames holds: for every tree and letter, the names after the step are as the law says. No conditions.
-/
import Derived.Test.YtonhbeapffiibaaLawNW
import Derived.Test.YtonhbeapffiibaaShape
namespace Go.Proofs.Ytonhbeapffiibaa
open Go.HL Go.ChangeShapes Go.WideShapes Go.ChangeAt Go.RowKit

set_option maxRecDepth 100000 in
theorem lifted5 (os : Os) (started : os.Started) (H : Type) (enc : TypeId × Value → H) :
    ReturnsInHanded {} Try.checked os 5 .any (Rows.treeNamesSpec.pre6 enc Try.prog Try.f5 Rows.treeNamesRow.domain false) (Rows.treeNamesSpec.post enc Try.prog Try.f5 false true false false) := by
  refine returnsInHanded_of_change (C := Try.checked) own started (by kernel_rfl) Try.func5
    (ChangeSpec.witness6 (enc := enc) (C := Try.checked) false ⟨#[], #[.agg #[.int .i64 0, .slice none 0 0, .slice none 0 0], .slice none 0 0, .int .i64 0], []⟩ 8 (by kernel_rfl) (by kernel_rfl) (by kernel_rfl) (by kernel_rfl)) ?_
  intro W base args ds gs before hval hW _ _
  obtain ⟨p, q, hA, hV, hbe, hfz, hnd⟩ := id hW
  obtain ⟨hlen, hc⟩ := law_calls (X := pg) (fun _ => rfl) (f := 5) plainTs (by rw [Try.params5]; rfl) (fun j t v hj hv => hval j t v (by simpa using hj) hv) hA (fun xs hl hx => by
    rw [Try.params5] at hl hx
    match xs, hl with
    | [x0, x1, x2], _ =>
      obtain ⟨a0, rfl⟩ := shBu (hx 0 _ x0 rfl rfl)
      obtain ⟨a1, rfl⟩ := shNds (hx 1 _ x1 rfl rfl)
      obtain ⟨a2, rfl⟩ := shInt (hx 2 _ x2 rfl rfl)
      exact law_names a0 a1 a2)
  refine hc.mono fun e W' hp => ?_
  obtain ⟨rfl, hb⟩ := hp
  exact ⟨_, rfl, law_post hW rfl (fun hl => by rw [Try.params5] at hl; match ds, hl with | [_, _, _], _ => rfl) hlen (by kernel_rfl) un4 laidOut (by kernel_rfl) hb⟩

theorem tree_names_holds : Rows.TreeNamesSaid :=
  OpenClaim.holds_of_wide 5 Try.f5 rfl rfl rfl rfl rfl rfl rfl ⟨rfl, rfl, rfl, rfl, rfl⟩ rfl rfl rfl rfl rfl (by kernel_rfl) Try.func5 (by kernel_rfl)
    (of_decide_eq_true (by kernel_rfl)) (by unfold Func.isWrapper; first | (rw [if_pos (by decide +kernel)]; kernel_rfl) | (rw [if_neg (by decide +kernel)]; exact ⟨rfl, rfl⟩))
    (fun os started H enc _ => lifted5 os started H enc)

end Go.Proofs.Ytonhbeapffiibaa
