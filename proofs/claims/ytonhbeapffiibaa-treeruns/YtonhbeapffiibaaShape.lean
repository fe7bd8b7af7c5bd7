/-
  Chapter 16: the arguments' shapes.
-/
import Derived.Test.YtonhbeapffiibaaFacts
import Derived.Test.YtonhbeapffiibaaRows
import Derived.Test.YtonhbeapffiibaaRefC
namespace Go.Proofs.Ytonhbeapffiibaa
open Go.HL

set_option maxRecDepth 100000 in
theorem shInt {x : HV} (h : TA pg.P 3 x) : ∃ n, x = .int .i64 n := by
  have h' : TC pg.P 3 [x] := by have := h; unfold TA at this; rw [un3] at this; exact this
  obtain ⟨n, e, _⟩ := h'.ofInt un3
  injection e with e
  exact ⟨n, e⟩

set_option maxRecDepth 100000 in
theorem shInts {x : HV} (h : TA pg.P 22 x) : ∃ l, x = .sl false (ints l) := by
  have h' : TC pg.P 22 [x] := by have := h; unfold TA at this; rw [un22] at this; exact this
  obtain ⟨l, e⟩ := h'.ofInts un22 un3
  injection e with e
  exact ⟨l, e⟩

set_option maxRecDepth 100000 in
theorem shNdC {cs : List HV} (h : TC pg.P 43 cs) : ∃ e : Nd, cs = ndC e := by
  have hu : pg.P.underlying 43 = some (.struct _) := Try.underlying43
  obtain ⟨css, rfl, hl, hc⟩ := h.ofStruct hu
  match css, hl with
  | [a, b, c], _ =>
    obtain ⟨g, rfl, _⟩ := (hc 0 _ a rfl rfl).ofInt un3
    obtain ⟨g', rfl, _⟩ := (hc 1 _ b rfl rfl).ofInt un3
    obtain ⟨b', rfl⟩ := (hc 2 _ c rfl rfl).ofInts un22 un3
    exact ⟨⟨g, g', b'⟩, rfl⟩

set_option maxRecDepth 100000 in
theorem shMvC {cs : List HV} (h : TC pg.P 54 cs) : ∃ e : Mv, cs = mvC e := by
  have hu : pg.P.underlying 54 = some (.struct _) := Try.underlying54
  obtain ⟨css, rfl, hl, hc⟩ := h.ofStruct hu
  match css, hl with
  | [a, b], _ =>
    obtain ⟨g, rfl, _⟩ := (hc 0 _ a rfl rfl).ofInt un3
    obtain ⟨g', rfl⟩ := (hc 1 _ b rfl rfl).ofBool un4
    exact ⟨⟨g, g'⟩, rfl⟩

set_option maxRecDepth 100000 in
theorem shNds {x : HV} (h : TA pg.P 26 x) : ∃ l, x = .sl false (nds l) := by
  have h' : TC pg.P 26 [x] := by have := h; unfold TA at this; rw [un26] at this; exact this
  obtain ⟨es, e, _, hc⟩ := h'.ofSl un26
  obtain ⟨l, rfl⟩ := map_of (f := ndC) (p := TC pg.P 43) (fun _ hc => shNdC hc) es hc
  injection e with e
  exact ⟨l, e⟩

set_option maxRecDepth 100000 in
theorem shMvs {cs : List HV} (h : TC pg.P 52 cs) : ∃ l, cs = [.sl false (mvs l)] := by
  obtain ⟨es, e, _, hc⟩ := h.ofSl un52
  obtain ⟨l, rfl⟩ := map_of (f := mvC) (p := TC pg.P 54) (fun _ hc => shMvC hc) es hc
  exact ⟨l, e⟩

set_option maxRecDepth 100000 in
theorem shRows {cs : List HV} (h : TC pg.P 51 cs) : ∃ l, cs = [.sl false (rows l)] := by
  obtain ⟨es, e, _, hc⟩ := h.ofSl un51
  obtain ⟨l, rfl⟩ := map_of (f := fun r => [HV.sl false (mvs r)]) (p := TC pg.P 52) (fun _ hc => shMvs hc) es hc
  exact ⟨l, e⟩

set_option maxRecDepth 100000 in
theorem shMats {cs : List HV} (h : TC pg.P 23 cs) : ∃ l, cs = [.sl false (mats l)] := by
  obtain ⟨es, e, _, hc⟩ := h.ofSl un23
  obtain ⟨l, rfl⟩ := map_of (f := fun r => [HV.sl false (rows r)]) (p := TC pg.P 51) (fun _ hc => shRows hc) es hc
  exact ⟨l, e⟩

set_option maxRecDepth 100000 in
theorem shBu {x : HV} (h : TA pg.P 25 x) : ∃ b : Bu, x = .agg (buC b) := by
  have hu : pg.P.underlying 25 = some (.struct _) := Try.underlying25
  unfold TA at h
  rw [hu] at h
  obtain ⟨cs, rfl, h⟩ := h
  obtain ⟨css, rfl, hl, hc⟩ := h.ofStruct hu
  match css, hl with
  | [a, b, c], _ =>
    obtain ⟨g, rfl, _⟩ := (hc 0 _ a rfl rfl).ofInt un3
    obtain ⟨g', rfl⟩ := (hc 1 _ b rfl rfl).ofInts un22 un3
    obtain ⟨m, rfl⟩ := shMats (hc 2 _ c rfl rfl)
    exact ⟨⟨g, g', m⟩, rfl⟩

set_option maxRecDepth 100000 in
theorem own : ownKnob Try.prog.godebug = none := by kernel_rfl
set_option maxRecDepth 100000 in
theorem laidOut : laidOutB Try.prog = true := by kernel_rfl
set_option maxRecDepth 100000 in
theorem plainTs : plainT pg.P [3, 4, 22, 23, 25, 26, 43, 51, 52, 54] = true := by kernel_rfl

end Go.Proofs.Ytonhbeapffiibaa

