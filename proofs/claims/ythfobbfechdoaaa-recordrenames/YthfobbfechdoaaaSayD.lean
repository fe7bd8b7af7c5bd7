/-
  RecordRenames holds: for every record, event and permutation of the names, the renamed event has the same priority and the renamed record, and Wins does not depend on the names. No conditions.
-/
import Derived.Test.YthfobbfechdoaaaLawE
import Derived.Test.YthfobbfechdoaaaShape
namespace Go.Proofs.Ythfobbfechdoaaa
open Go.HL Go.ChangeShapes Go.WideShapes Go.ChangeAt Go.RowKit

set_option maxRecDepth 100000 in
theorem lifted8 (os : Os) (started : os.Started) (H : Type) (enc : TypeId × Value → H) :
    ReturnsInHanded {} Try.checked os 8 .any (Rows.recordRenamesSpec.pre6 enc Try.prog Try.f8 Rows.recordRenamesRow.domain false) (Rows.recordRenamesSpec.post enc Try.prog Try.f8 false true false false) := by
  refine returnsInHanded_of_change (C := Try.checked) own started (by kernel_rfl) Try.func8
    (ChangeSpec.witness6 (enc := enc) (C := Try.checked) false ⟨#[], #[.slice none 0 0, .slice none 0 0, .agg #[.slice none 0 0, .slice none 0 0], .slice none 0 0], []⟩ 8 (by kernel_rfl) (by kernel_rfl) (by kernel_rfl) (by kernel_rfl)) ?_
  intro W base args ds gs before hval hW _ _
  obtain ⟨p, q, hA, hV, hbe, hfz, hnd⟩ := id hW
  obtain ⟨hlen, hc⟩ := law_calls (X := pg) (fun _ => rfl) (f := 8) plainTs (by rw [Try.params8]; rfl) (fun j t v hj hv => hval j t v (by simpa using hj) hv) hA (fun xs hl hx => by
    rw [Try.params8] at hl hx
    match xs, hl with
    | [x0, x1, x2, x3], _ =>
      obtain ⟨a0, rfl⟩ := shInts (hx 0 _ x0 rfl rfl)
      obtain ⟨a1, rfl⟩ := shInts (hx 1 _ x1 rfl rfl)
      obtain ⟨a2, rfl⟩ := shEv (hx 2 _ x2 rfl rfl)
      obtain ⟨a3, rfl⟩ := shEvs (hx 3 _ x3 rfl rfl)
      exact law_renames _ _ _ a0 a1 a2 a3)
  refine hc.mono fun e W' hp => ?_
  obtain ⟨rfl, hb⟩ := hp
  exact ⟨_, rfl, law_post hW rfl (fun hl => by rw [Try.params8] at hl; match ds, hl with | [_, _, _, _], _ => rfl) hlen (by kernel_rfl) un4 laidOut (by kernel_rfl) hb⟩

theorem record_renames_holds : Rows.RecordRenamesSaid :=
  OpenClaim.holds_of_wide 8 Try.f8 rfl rfl rfl rfl rfl rfl rfl ⟨rfl, rfl, rfl, rfl, rfl⟩ rfl rfl rfl rfl rfl (by kernel_rfl) Try.func8 (by kernel_rfl)
    (of_decide_eq_true (by kernel_rfl)) (by unfold Func.isWrapper; first | (rw [if_pos (by decide +kernel)]; kernel_rfl) | (rw [if_neg (by decide +kernel)]; exact ⟨rfl, rfl⟩))
    (fun os started H enc _ => lifted8 os started H enc)

end Go.Proofs.Ythfobbfechdoaaa
