/-
  TreeOrder holds: for every tree and letter, moves that are not good can be left out where there is a good one to the same state. No conditions.
-/
import Derived.Test.YtonhbeapffiibaaLawO
import Derived.Test.YtonhbeapffiibaaShape
namespace Go.Proofs.Ytonhbeapffiibaa
open Go.HL Go.ChangeShapes Go.WideShapes Go.ChangeAt Go.RowKit

set_option maxRecDepth 100000 in
theorem lifted7 (os : Os) (started : os.Started) (H : Type) (enc : TypeId × Value → H) :
    ReturnsInHanded {} Try.checked os 7 .any (Rows.treeOrderSpec.pre6 enc Try.prog Try.f7 Rows.treeOrderRow.domain false) (Rows.treeOrderSpec.post enc Try.prog Try.f7 false true false false) := by
  refine returnsInHanded_of_change (C := Try.checked) own started (by kernel_rfl) Try.func7
    (ChangeSpec.witness6 (enc := enc) (C := Try.checked) false ⟨#[], #[.agg #[.int .i64 0, .slice none 0 0, .slice none 0 0], .slice none 0 0, .int .i64 0], []⟩ 8 (by kernel_rfl) (by kernel_rfl) (by kernel_rfl) (by kernel_rfl)) ?_
  intro W base args ds gs before hval hW _ _
  obtain ⟨p, q, hA, hV, hbe, hfz, hnd⟩ := id hW
  obtain ⟨hlen, hc⟩ := law_calls (X := pg) (fun _ => rfl) (f := 7) plainTs (by rw [Try.params7]; rfl) (fun j t v hj hv => hval j t v (by simpa using hj) hv) hA (fun xs hl hx => by
    rw [Try.params7] at hl hx
    match xs, hl with
    | [x0, x1, x2], _ =>
      obtain ⟨a0, rfl⟩ := shBu (hx 0 _ x0 rfl rfl)
      obtain ⟨a1, rfl⟩ := shNds (hx 1 _ x1 rfl rfl)
      obtain ⟨a2, rfl⟩ := shInt (hx 2 _ x2 rfl rfl)
      exact law_order a0 a1 a2)
  refine hc.mono fun e W' hp => ?_
  obtain ⟨rfl, hb⟩ := hp
  exact ⟨_, rfl, law_post hW rfl (fun hl => by rw [Try.params7] at hl; match ds, hl with | [_, _, _], _ => rfl) hlen (by kernel_rfl) un4 laidOut (by kernel_rfl) hb⟩

theorem tree_order_holds : Rows.TreeOrderSaid :=
  OpenClaim.holds_of_wide 7 Try.f7 rfl rfl rfl rfl rfl rfl rfl ⟨rfl, rfl, rfl, rfl, rfl⟩ rfl rfl rfl rfl rfl (by kernel_rfl) Try.func7 (by kernel_rfl)
    (of_decide_eq_true (by kernel_rfl)) (by unfold Func.isWrapper; first | (rw [if_pos (by decide +kernel)]; kernel_rfl) | (rw [if_neg (by decide +kernel)]; exact ⟨rfl, rfl⟩))
    (fun os started H enc _ => lifted7 os started H enc)

end Go.Proofs.Ytonhbeapffiibaa
