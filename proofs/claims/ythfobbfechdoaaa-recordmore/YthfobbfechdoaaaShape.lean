/-
  Chapter 17: the arguments' shapes.
-/
import Derived.Test.YthfobbfechdoaaaFacts
import Derived.Test.YthfobbfechdoaaaRows
import Derived.Test.YthfobbfechdoaaaRef
namespace Go.Proofs.Ythfobbfechdoaaa
open Go.HL

theorem shInt {x : HV} (h : TA pg.P 3 x) : ∃ n, x = .int .i64 n := by
  have h' : TC pg.P 3 [x] := by have := h; unfold TA at this; rw [un3] at this; exact this
  obtain ⟨n, e, _⟩ := h'.ofInt un3
  injection e with e
  exact ⟨n, e⟩

theorem shInts {x : HV} (h : TA pg.P 22 x) : ∃ l, x = .sl false (ints l) := by
  have h' : TC pg.P 22 [x] := by have := h; unfold TA at this; rw [un22] at this; exact this
  obtain ⟨l, e⟩ := h'.ofInts un22 un3
  injection e with e
  exact ⟨l, e⟩

theorem shEvC {cs : List HV} (h : TC pg.P 24 cs) : ∃ e : Ev, cs = evC e := by
  have hu : pg.P.underlying 24 = some (.struct _) := Try.underlying24
  obtain ⟨css, rfl, hl, hc⟩ := h.ofStruct hu
  match css, hl with
  | [a, b], _ =>
    obtain ⟨g, rfl⟩ := (hc 0 _ a rfl rfl).ofInts un22 un3
    obtain ⟨b', rfl⟩ := (hc 1 _ b rfl rfl).ofInts un22 un3
    exact ⟨⟨g, b', false, false⟩, rfl⟩

theorem shEv {x : HV} (h : TA pg.P 24 x) : ∃ e : Ev, x = .agg (evC e) := by
  have hu : pg.P.underlying 24 = some (.struct _) := Try.underlying24
  unfold TA at h
  rw [hu] at h
  obtain ⟨cs, rfl, hc⟩ := h
  obtain ⟨e, rfl⟩ := shEvC hc
  exact ⟨e, rfl⟩

theorem shEvs {x : HV} (h : TA pg.P 25 x) : ∃ l, x = .sl false (evs l) := by
  have h' : TC pg.P 25 [x] := by have := h; unfold TA at this; rw [un25] at this; exact this
  obtain ⟨es, e, _, hc⟩ := h'.ofSl un25
  obtain ⟨l, rfl⟩ := map_of (f := evC) (p := TC pg.P 24) (fun _ hc => shEvC hc) es hc
  injection e with e
  exact ⟨l, e⟩

theorem own : ownKnob Try.prog.godebug = none := by kernel_rfl
theorem laidOut : laidOutB Try.prog = true := by kernel_rfl
theorem plainTs : plainT pg.P [3, 22, 24, 25] = true := by kernel_rfl

end Go.Proofs.Ythfobbfechdoaaa
