/-
  HL, part Zh: a result that lies in new objects becomes immutable data; the objects that stood before stay.
-/
import Derived.Test.YtonhbeapffiibaaHlZg
namespace Go.HL

def newOf (k : Nat) (h : Hp) : Hp := h.mapIdx fun i o => if i < k then .gone else o
def oldOf (k : Nat) (h : Hp) : Hp := h.mapIdx fun i o => if i < k then o else .gone

theorem newOf_get {k : Nat} {h : Hp} {id : Nat} {o : HO} (hl : o.live = true) (ho : (newOf k h)[id]? = some o) : h[id]? = some o ∧ k ≤ id := by
  simp only [newOf, List.getElem?_mapIdx, Option.map_eq_some_iff] at ho
  obtain ⟨o', h1, h2⟩ := ho
  split at h2
  · subst h2; cases hl
  · subst h2; exact ⟨h1, by omega⟩

theorem oldOf_get {k : Nat} {h : Hp} {id : Nat} {o : HO} (hl : o.live = true) (ho : (oldOf k h)[id]? = some o) : h[id]? = some o ∧ id < k := by
  simp only [oldOf, List.getElem?_mapIdx, Option.map_eq_some_iff] at ho
  obtain ⟨o', h1, h2⟩ := ho
  split at h2
  · rename_i hk; subst h2; exact ⟨h1, hk⟩
  · subst h2; cases hl

theorem oldOf_at {k : Nat} {h : Hp} {id : Nat} (hk : id < k) : (oldOf k h)[id]? = h[id]? := by
  simp only [oldOf, List.getElem?_mapIdx]
  cases h[id]? with
  | none => rfl
  | some o => simp [hk]

section
variable {X : PG}

theorem CallsH.freeze {f : FuncId} {args : List HV} {h : Hp} {R : HV → Hp → Prop} (hc : CallsH X f args h (fun r h' => ∃ n y, rdV (newOf h.length h') n r = some y ∧ R y (oldOf h.length h'))) : CallsH X f args h R := by
  intro K vs ha hh
  refine (hc K vs ha hh).mono fun en w' hp => ?_
  obtain ⟨v, K', r, h', rfl, rfl, x, hh', hrv, n, y, hy, hR⟩ := hp
  have hnew : RH X K' (newOf h.length h') := hh'.fewer (by simp [newOf]) (fun id o hl ho => (newOf_get hl ho).1)
  let K2 : KS := { K' with L := fun b => K'.L b ∧ ∀ id, liveAt K' (newOf h.length h') id → K'.b id ≠ b }
  have hle : K'.le K2 := ⟨Nat.le_refl _, fun _ _ _ => rfl, fun b hb => .inl hb.1, fun _ h => ⟨h, rfl, rfl, rfl⟩⟩
  have hold : RH X K' (oldOf h.length h') := hh'.fewer (by simp [oldOf]) (fun id o hl ho => (oldOf_get hl ho).1)
  have hlv : ∀ id, liveAt K' (oldOf h.length h') id → liveAt K' h' id ∧ id < h.length := fun id ⟨hA, ⟨o, ho, hl⟩, hc⟩ => ⟨⟨hA, ⟨o, (oldOf_get hl ho).1, hl⟩, hc⟩, (oldOf_get hl ho).2⟩
  have hnv : ∀ id, liveAt K' (newOf h.length h') id → liveAt K' h' id ∧ h.length ≤ id := fun id ⟨hA, ⟨o, ho, hl⟩, hc⟩ => ⟨⟨hA, ⟨o, (newOf_get hl ho).1, hl⟩, hc⟩, (newOf_get hl ho).2⟩
  refine ⟨v, K2, y, oldOf h.length h', rfl, rfl, ?_, ?_, ?_, hR⟩
  · refine ⟨⟨x.os, x.tape, x.output, x.size, x.block, fun id hl => x.new id (hlv id hl).1, fun b hb => x.L b hb.1, fun b hb hk => ⟨x.keep b hb hk, fun id hl e => ?_⟩, x.A⟩, by simp only [oldOf, List.length_mapIdx]; exact x.len, x.An⟩
    rcases x.new id (hnv id hl).1 with ⟨i, hi, hib⟩ | hs
    · exact hk i hi (hib.trans e)
    · have := hh.Lb b hb; omega
  · refine ⟨hold.A, fun id o hA ho => (hold.obj id o hA ho).mono hle hA (fun _ _ _ => rfl), fun id hl => ⟨hh'.live id (hlv id hl).1, fun id' hl' e => ?_⟩, hold.inj, fun b hb => hh'.Lb b hb.1, hh'.glob.mono hle⟩
    have := hh'.inj id' id (hnv id' hl').1 (hlv id hl).1 e
    have h1 := (hnv id' hl').2
    have h2 := (hlv id hl).2
    omega
  · exact rdV_sound (K' := K2) hnew rfl (fun b hb => hb.1) (fun id hl hb => hb.2 id hl rfl) n hrv hy

/-- A result of whose capacities nothing is said. -/
theorem CallsH.dimR {f : FuncId} {args : List HV} {h : Hp} {R : HV → Hp → Prop} (hc : CallsH X f args h fun r h' => R r.dim h') : CallsH X f args h R := fun K vs hv hh =>
  (hc K vs hv hh).mono fun _ _ ⟨v, K', r, h', e1, e2, x, y, z, hR⟩ => ⟨v, K', r.dim, h', e1, e2, x, y, z.dim, hR⟩

/-- A contract over own rows with a fresh result, out of its walk. -/
theorem CallsH.of_wpF {f : FuncId} {fn : Func} {c : Code} {args : List HV} {h : Hp} {R : HV → Hp → Prop} (own : List String) (N : Nat) (hf : X.P.funcs[f]? = some fn) (hb : fn.body = some c) (hN : args.length + (fn.ntmps - args.length) = N)
    (hc : WP X { N := N, own := own } c (fnPost X.P fn fun r h' => ∃ n y, rdV (newOf h.length h') n r = some y ∧ R y.dim (oldOf h.length h')) (argEnv N args) h) : CallsH X f args h R :=
  CallsH.dimR (CallsH.freeze (CallsH.of_wpN own N hf hb hN hc))

end

end Go.HL

