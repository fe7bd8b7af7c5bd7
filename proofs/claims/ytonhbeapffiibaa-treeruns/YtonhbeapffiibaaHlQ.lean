/-
  HL, part Q: regions that draw their order, first part: what the order of the text says; which operations may change places.
-/
import Derived.Test.YtonhbeapffiibaaHlM3
import Derived.OrdersIn
namespace Go.HL

/-- The operations that bind operation i. -/
def predsA (ops : Array Oper) (i : Nat) : List Nat :=
  match ops[i]? with
  | some o => (o.after.toList.filter (Region.binds .any)).map (·.on)
  | none => []

/-- A table of what is carried out ahead of each operation in any case. -/
def ancT : List (List Nat) → List Oper → List (List Nat)
  | acc, [] => acc
  | acc, o :: rest =>
    let ps := (o.after.toList.filter (Region.binds .any)).map (·.on)
    ancT (acc ++ [(ps ++ ps.flatMap fun p => acc.getD p []).eraseDups]) rest

def unordAt (A : List (List Nat)) (n i : Nat) : List Nat :=
  (List.range n).filter fun j => !(j == i) && !((A.getD i []).contains j) && !((A.getD j []).contains i)

/-- The table fits the region, and operations that may change places do not touch each other's temporaries. -/
def okD (ops : Array Oper) (A : List (List Nat)) : Bool :=
  (List.range ops.size).all fun i =>
    (predsA ops i).all (fun p => decide (p < i)) &&
    (A.getD i []).all (fun j => (predsA ops i).any fun p => p == j || (A.getD p []).contains j) &&
    (unordAt A ops.size i).all fun j =>
      match ops[i]?, ops[j]? with
      | some a, some b => match b.dst with | some d => !((a.looksAt ops).contains d) && !(a.dst == some d) | none => true
      | _, _ => true

def dmask (U : List Nat) (i : Nat) (W nw : List (List Nat)) : List Nat := U.flatMap fun j => if j < i then nw.getD j [] else W.getD j []

def mask (M : List Nat) (h : Hp) : Hp := match M with | [] => h | _ => h.mapIdx fun id o => if M.contains id then .gone else o

def liveB (h : Hp) (id : Nat) : Bool := match h[id]? with | some o => o.live | none => false

/-- One operation of a region that draws its order. -/
def stepD (X : PG) (own : Bool) (e : Env) (R : Hp) (nid : Nat) (k : ER → Prop) (o : Op) : Prop :=
  match o with
  | .call c =>
    match c.callee with
    | .value f =>
      match ev X e f with
      | .fn (.func g) fs cs => entersH X.P g = true ∧ ∃ x ws, (∀ h', hle R h' → CallsH X g (fs ++ c.args.toList.map (ev X e) ++ cs) h' (fun r h'' => r = x ∧ h'' = setAll h' ws)) ∧ k { x := x, ws := ws }
      | _ => False
    | _ => match opE X own (ev X e) R nid (.call c) with | some r => k r | none => False
  | o => match opE X own (ev X e) R nid o with | some r => k r | none => False

def newIds (nid : Nat) (r : ER) : List Nat := r.ws.map (·.1) ++ List.range' nid r.ns.length

/-- The operations of a region that draws its order, in the order of the text. -/
def opsD (X : PG) (C : Cx) (ops : Array Oper) (A W : List (List Nat)) (Q : Env → Hp → Prop) : List Oper → Nat → List (List Nat) → Env → Hp → Prop
  | [], _, _, e, h => Q e h
  | o :: rest, i, nw, e, h =>
    match wantH e ops o with
    | some true =>
      stepD X (C.own.contains o.pos) e (mask (dmask (unordAt A ops.size i) i W nw) h) h.length (fun r =>
        (r.ws.all fun w => (W.getD i []).contains w.1 && liveB (mask (dmask (unordAt A ops.size i) i W nw) h) w.1) = true ∧
        opsD X C ops A W Q rest (i + 1) (nw ++ [newIds h.length r]) (putE C.N e o.dst r.x) (setAll (h ++ r.ns) r.ws)) o.op
    | some false => opsD X C ops A W Q rest (i + 1) (nw ++ [[]]) (putE C.N e o.dst (.tup [])) h
    | none => False

/-- What one operation says, told without the continuation. -/
def Eff (X : PG) (own : Bool) (e : Env) (R : Hp) (nid : Nat) (o : Op) (r : ER) : Prop :=
  opE X own (ev X e) R nid o = some r ∨
  ∃ c f g fs cs, o = .call c ∧ c.callee = .value f ∧ ev X e f = .fn (.func g) fs cs ∧ entersH X.P g = true ∧ r.ns = [] ∧
    ∀ h', hle R h' → CallsH X g (fs ++ c.args.toList.map (ev X e) ++ cs) h' (fun r' h'' => r' = r.x ∧ h'' = setAll h' r.ws)

section
variable {X : PG}

theorem stepD_eff {own : Bool} {e : Env} {R : Hp} {nid : Nat} {k : ER → Prop} {o : Op} (h : stepD X own e R nid k o) : ∃ r, Eff X own e R nid o r ∧ k r := by
  have eff : ∀ op, (match opE X own (ev X e) R nid op with | some r => k r | none => False) → ∃ r, Eff X own e R nid op r ∧ k r := fun op hm => by
    split at hm
    · rename_i r hr; exact ⟨r, .inl hr, hm⟩
    · exact hm.elim
  cases o with
  | call c =>
    simp only [stepD] at h
    cases hc : c.callee with
    | value f =>
      rw [hc] at h
      simp only at h
      split at h
      · rename_i g fs cs hf
        obtain ⟨h1, x, ws, h2, h3⟩ := h
        exact ⟨_, .inr ⟨c, f, g, fs, cs, rfl, hc, hf, h1, rfl, h2⟩, h3⟩
      · exact h.elim
    | builtin b => rw [hc] at h; exact eff _ h
    | invoke r n => rw [hc] at h; exact eff _ h
  | _ => exact eff _ h

theorem opE_congr {own : Bool} {ρ ρ' : Operand → HV} {h : Hp} {nid : Nat} {o : Op} (hρ : ∀ x ∈ o.operands, ρ x = ρ' x) : opE X own ρ h nid o = opE X own ρ' h nid o := by
  have pairs : ∀ ps : Array (Nat × Operand), (∀ x ∈ ps.map (·.2), ρ x = ρ' x) → (ps.toList.map fun p => (p.1, ρ p.2)) = (ps.toList.map fun p => (p.1, ρ' p.2)) := fun ps hp =>
    List.map_congr_left fun p hm => by rw [hp p.2 (Array.mem_map.2 ⟨p, by simpa using hm, rfl⟩)]
  cases o with
  | call c =>
    obtain ⟨callee, args, argTypes⟩ := c
    simp only [Op.operands] at hρ
    have hargs : ∀ x ∈ args.toList, ρ x = ρ' x := fun x hx => hρ x (by simp [Call.operands] at hx ⊢; exact .inr hx)
    have hmap : args.toList.map ρ = args.toList.map ρ' := List.map_congr_left hargs
    simp only [opE, opV]
    generalize args.toList = l at hargs hmap
    generalize argTypes.toList = ts
    rw [hmap]
    rcases l with _ | ⟨x, _ | ⟨y, _ | ⟨z, l⟩⟩⟩
    · cases callee <;> (try rfl)
      rename_i b
      cases b <;> rcases ts with _ | ⟨t, _ | ⟨t', _ | ⟨t'', ts⟩⟩⟩ <;> rfl
    · have e1 := hargs x (by simp)
      cases callee <;> (try rfl)
      rename_i b
      cases b <;> rcases ts with _ | ⟨t, _ | ⟨t', _ | ⟨t'', ts⟩⟩⟩ <;> first | rfl | simp only [e1]
    · have e1 := hargs x (by simp)
      have e2 := hargs y (by simp)
      cases callee <;> (try rfl)
      rename_i b
      cases b <;> rcases ts with _ | ⟨t, _ | ⟨t', _ | ⟨t'', ts⟩⟩⟩ <;> first | rfl | simp only [e1, e2]
    · cases callee <;> (try rfl)
      rename_i b
      cases b <;> rcases ts with _ | ⟨t, _ | ⟨t', _ | ⟨t'', ts⟩⟩⟩ <;> rfl
  | build t ps => simp only [opE, opV]; rw [pairs ps fun x hx => hρ x (by simpa [Op.operands] using hx)]
  | buildSlice t n ps => simp only [opE]; rw [pairs ps fun x hx => hρ x (by simpa [Op.operands] using hx)]
  | makeFunc fn first captured =>
    simp only [Op.operands] at hρ
    simp only [opE, opV]
    rw [List.map_congr_left (l := first.toList) fun x hx => hρ x (by simp at hx ⊢; exact .inl hx), List.map_congr_left (l := captured.toList) fun x hx => hρ x (by simp at hx ⊢; exact .inr hx)]
  | makeMap t r => cases r <;> simp [opE, opV]
  | slice t x lo hi mx => simp only [Op.operands] at hρ; cases lo <;> cases hi <;> cases mx <;> simp_all [opE, opV]
  | _ => simp only [Op.operands] at hρ; simp_all [opE, opV]

end
end Go.HL

