/-
  RecordMatchesReference holds: for every list, number and events, package record and the reference agree, as the law's Go text says. No conditions.
-/
import Derived.Test.YthfobbfechdoaaaLawA
import Derived.Test.YthfobbfechdoaaaShape
namespace Go.Proofs.Ythfobbfechdoaaa
open Go.HL Go.ChangeShapes Go.WideShapes Go.ChangeAt Go.RowKit

set_option maxRecDepth 100000 in
theorem lifted3 (os : Os) (started : os.Started) (H : Type) (enc : TypeId × Value → H) :
    ReturnsInHanded {} Try.checked os 3 .any (Rows.recordMatchesReferenceSpec.pre6 enc Try.prog Try.f3 Rows.recordMatchesReferenceRow.domain false) (Rows.recordMatchesReferenceSpec.post enc Try.prog Try.f3 false true false false) := by
  refine returnsInHanded_of_change (C := Try.checked) own started (by kernel_rfl) Try.func3
    (ChangeSpec.witness6 (enc := enc) (C := Try.checked) false ⟨#[], #[.slice none 0 0, .int .i64 0, .agg #[.slice none 0 0, .slice none 0 0], .slice none 0 0, .slice none 0 0], []⟩ 8 (by kernel_rfl) (by kernel_rfl) (by kernel_rfl) (by kernel_rfl)) ?_
  intro W base args ds gs before hval hW _ _
  obtain ⟨p, q, hA, hV, hbe, hfz, hnd⟩ := id hW
  obtain ⟨hlen, hc⟩ := law_calls (X := pg) (fun _ => rfl) (f := 3) plainTs (by rw [Try.params3]; rfl) (fun j t v hj hv => hval j t v (by simpa using hj) hv) hA (fun xs hl hx => by
    rw [Try.params3] at hl hx
    match xs, hl with
    | [x0, x1, x2, x3, x4], _ =>
      obtain ⟨a0, rfl⟩ := shInts (hx 0 _ x0 rfl rfl)
      obtain ⟨a1, rfl⟩ := shInt (hx 1 _ x1 rfl rfl)
      obtain ⟨a2, rfl⟩ := shEv (hx 2 _ x2 rfl rfl)
      obtain ⟨a3, rfl⟩ := shEvs (hx 3 _ x3 rfl rfl)
      obtain ⟨a4, rfl⟩ := shEvs (hx 4 _ x4 rfl rfl)
      exact law_matches _ _ _ a0 a1 a2 a3 a4)
  refine hc.mono fun e W' hp => ?_
  obtain ⟨rfl, hb⟩ := hp
  exact ⟨_, rfl, law_post hW rfl (fun hl => by rw [Try.params3] at hl; match ds, hl with | [_, _, _, _, _], _ => rfl) hlen (by kernel_rfl) un4 laidOut (by kernel_rfl) hb⟩

theorem record_matches_reference_holds : Rows.RecordMatchesReferenceSaid :=
  OpenClaim.holds_of_wide 3 Try.f3 rfl rfl rfl rfl rfl rfl rfl ⟨rfl, rfl, rfl, rfl, rfl⟩ rfl rfl rfl rfl rfl (by kernel_rfl) Try.func3 (by kernel_rfl)
    (of_decide_eq_true (by kernel_rfl)) (by unfold Func.isWrapper; first | (rw [if_pos (by decide +kernel)]; kernel_rfl) | (rw [if_neg (by decide +kernel)]; exact ⟨rfl, rfl⟩))
    (fun os started H enc _ => lifted3 os started H enc)

end Go.Proofs.Ythfobbfechdoaaa
