/-
  HL, part Y: regions with calls, walked by program.
-/
import Derived.Test.YtonhbeapffiibaaHlX
namespace Go.HL

def isCall (o : Oper) : Bool :=
  match o.op with
  | .call c => match c.callee with | .value _ => true | _ => false
  | _ => false

/-- The operations ahead of the first call, the call, and what is behind it. -/
def splitC : List Oper → Option (List Oper × Oper × List Oper)
  | [] => none
  | o :: r => match isCall o with
    | true => some ([], o, r)
    | false => match splitC r with | some (p, c, q) => some (o :: p, c, q) | none => none

theorem splitC_eq : ∀ {l p q : List Oper} {o : Oper}, splitC l = some (p, o, q) → l = p ++ o :: q
  | [], _, _, _, h => by simp [splitC] at h
  | x :: r, p, q, o, h => by
    simp only [splitC] at h
    split at h
    · simp only [Option.some.injEq, Prod.mk.injEq] at h
      obtain ⟨rfl, rfl, rfl⟩ := h
      rfl
    · split at h
      · rename_i hr
        simp only [Option.some.injEq, Prod.mk.injEq] at h
        obtain ⟨rfl, rfl, rfl⟩ := h
        rw [splitC_eq hr]
        rfl
      · cases h

section
variable {X : PG} {C : Cx} {ops : Array Oper} {e : Env} {h : Hp}

theorem WP.regionX {id : Nat} {Q : Exit → Env → Hp → Prop} {p q : List Oper} {o : Oper} {e' : Env} {h' : Hp} (hs : splitC ops.toList = some (p, o, q)) (he : evalS X C ops p (some (e, h)) = some (e', h')) (hc : opsT X C ops (fun e h => Q .normal e h) (o :: q) e' h') : WP X C (.region id ops false) Q e h :=
  WP.region (by rw [splitC_eq hs]; exact opsT.run _ _ he hc)

theorem opsT.moreX {Q : Env → Hp → Prop} {l p q : List Oper} {p0 o : Oper} {e' : Env} {h' : Hp} (hs : splitC l = some (p0 :: p, o, q)) (he : evalS X C ops (p0 :: p) (some (e, h)) = some (e', h')) (hc : opsT X C ops Q (o :: q) e' h') : opsT X C ops Q l e h := by
  rw [splitC_eq hs]; exact opsT.run _ _ he hc

theorem opsT.skipG {Q : Env → Hp → Prop} {rest : List Oper} {dst : Option Tmp} {op : Op} {ty : TypeId} {pos : String} {after : Array Edge} {j : Nat} {want : Bool} (hw : wantS ((ops[j]?).bind (·.dst)) want e = some false) (hq : opsT X C ops Q rest (putE C.N e dst (.tup [])) h) : opsT X C ops Q (⟨dst, op, ty, pos, after, some (j, want)⟩ :: rest) e h := by
  have hw' : wantH e ops ⟨dst, op, ty, pos, after, some (j, want)⟩ = some false := hw
  simp only [opsT, hw']
  exact hq

/-- A call of yield. -/
theorem opsT.yield {Q : Env → Hp → Prop} {rest : List Oper} {dst : Option Tmp} {f : Operand} {args : Array Operand} {ts : Array TypeId} {ty : TypeId} {pos : String} {after : Array Edge} {l : Nat} {xs : List HV} (hf : ev X e f = .fn (.yield l) [] [])
    (hx : args.toList.map (ev X e) = xs) (hc : CallsY X l xs h fun x h' => opsT X C ops Q rest (putE C.N e dst x) h') : opsT X C ops Q (⟨dst, .call ⟨.value f, args, ts⟩, ty, pos, after, none⟩ :: rest) e h := by
  subst hx
  simp only [opsT, wantH, stepT, hf]
  exact hc

theorem WP.regionVX {id : Nat} {Q : Exit → Env → Hp → Prop} {p q : List Oper} {o : Oper} {e' : Env} {h' : Hp} (hm : X.P.follows .mixedOrders = true) (hok : okD ops (ancT [] ops.toList) = true) (hs : splitC ops.toList = some (p, o, q)) (hp : (p.all fun o => Op.plain (C.own.contains o.pos) o.op) = true)
    (he : evalS X C ops p (some (e, h)) = some (e', h')) (hc : opsV X C ops (fun e h => Q .normal e h) (o :: q) e' h) : WP X C (.region id ops true) Q e h :=
  WP.regionV0 hm hok (by rw [splitC_eq hs]; exact opsV.run _ _ hp he hc)

theorem opsV.moreX {Q : Env → Hp → Prop} {l p q : List Oper} {p0 o : Oper} {e' : Env} {h' : Hp} (hs : splitC l = some (p0 :: p, o, q)) (hp : ((p0 :: p).all fun o => Op.plain (C.own.contains o.pos) o.op) = true) (he : evalS X C ops (p0 :: p) (some (e, h)) = some (e', h')) (hc : opsV X C ops Q (o :: q) e' h) : opsV X C ops Q l e h := by
  rw [splitC_eq hs]; exact opsV.run _ _ hp he hc

theorem opsV.skipG {Q : Env → Hp → Prop} {rest : List Oper} {dst : Option Tmp} {op : Op} {ty : TypeId} {pos : String} {after : Array Edge} {j : Nat} {want : Bool} (hw : wantS ((ops[j]?).bind (·.dst)) want e = some false) (hq : opsV X C ops Q rest (putE C.N e dst (.tup [])) h) : opsV X C ops Q (⟨dst, op, ty, pos, after, some (j, want)⟩ :: rest) e h := by
  have hw' : wantH e ops ⟨dst, op, ty, pos, after, some (j, want)⟩ = some false := hw
  simp only [opsV, hw']
  exact hq

/-- A drawn region without calls that writes nothing. -/
theorem WP.regionV1 {id : Nat} {Q : Exit → Env → Hp → Prop} {e' : Env} {h' : Hp} (hm : X.P.follows .mixedOrders = true) (hok : okD ops (ancT [] ops.toList) = true) (hp : (ops.toList.all fun o => Op.plain (C.own.contains o.pos) o.op) = true)
    (he : evalS X C ops ops.toList (some (e, h)) = some (e', h')) (hq : Q .normal e' h) : WP X C (.region id ops true) Q e h :=
  WP.regionV0 hm hok (opsV.fin hp he hq)

end

theorem rdV_int {h : Hp} {n : Nat} {k : IntKind} {z : Int} : rdV h n (.int k z) = some (.int k z) := rdV_free n _ rfl
theorem rdV_bool {h : Hp} {n : Nat} {b : Bool} : rdV h n (.bool b) = some (.bool b) := rdV_free n _ rfl
theorem rdV_str {h : Hp} {n : Nat} {b : ByteArray} : rdV h n (.str b) = some (.str b) := rdV_free n _ rfl
theorem rdV_nul {h : Hp} {n : Nat} {b : Value} : rdV h n (.nul b) = some (.nul b) := rdV_free n _ rfl
attribute [go_sem] PG.withI_P PG.withI_G
attribute [go_sem] rdV_int rdV_bool rdV_str rdV_nul

theorem rdV_row {h : Hp} {id n m : Nat} {t : TypeId} {es : List (List HV)} (hr : h[id]? = some (.row t es)) (hn : es.length = n) (hf : HV.freeLL es = true) : rdV h (m + 1) (.ow id 0 n) = some (.sl false es) := by
  subst hn
  simp only [rdV, hr, Nat.zero_add, Nat.le_refl, if_true, List.drop_zero, List.take_length]
  rw [rdLL_free m es hf]
  rfl

/-- Several rows of the call's own, all different. -/
def OwnsL (h : Hp) (L : List (HV × TypeId × List (List HV))) : Prop :=
  (∀ p ∈ L, OwnAt h p.1 p.2.1 p.2.2) ∧ L.Pairwise fun p q => ∀ id n m, p.1 = .ow id 0 n → q.1 ≠ .ow id 0 m

theorem OwnAt.row {h : Hp} {id n : Nat} {t : TypeId} {es : List (List HV)} (ho : OwnAt h (.ow id 0 n) t es) : h[id]? = some (.row t es) ∧ n = es.length := by
  rcases ho with ⟨h1, _⟩ | ⟨id', h1, h2⟩
  · cases h1
  · injection h1 with h1 _ h3
    subst h1
    exact ⟨h2, h3⟩

theorem OwnAt.of_row {h : Hp} {id : Nat} {t : TypeId} {es : List (List HV)} (hr : h[id]? = some (.row t es)) : OwnAt h (.ow id 0 es.length) t es := .inr ⟨id, rfl, hr⟩

theorem OwnAt.elems {h : Hp} {x : HV} {t : TypeId} {es : List (List HV)} (ho : OwnAt h x t es) : elemsH h x = some es := by
  rcases ho with ⟨rfl, rfl⟩ | ⟨id, rfl, hid⟩
  · rfl
  · simp [elemsH, hid]

theorem OwnAt.len {P : Program} {T : TypeId} {h : Hp} {x : HV} {t : TypeId} {es : List (List HV)} (ho : OwnAt h x t es) (hl : ∀ full es, lenH P h T (.sl full es) = some (.int .i64 es.length)) (hl' : ∀ id lo n, lenH P h T (.ow id lo n) = some (.int .i64 n)) : lenH P h T x = some (.int .i64 es.length) := by
  rcases ho with ⟨rfl, rfl⟩ | ⟨id, rfl, hid⟩
  · exact hl _ _
  · exact hl' _ _ _

theorem OwnsL.at {h : Hp} {L : List (HV × TypeId × List (List HV))} (hL : OwnsL h L) (i : Nat) {p : HV × TypeId × List (List HV)} (hp : L[i]? = some p) : OwnAt h p.1 p.2.1 p.2.2 := hL.1 p (List.mem_of_getElem? hp)

theorem OwnsL.get {h : Hp} {L : List (HV × TypeId × List (List HV))} (hL : OwnsL h L) (i : Nat) {x : HV} {t : TypeId} {es : List (List HV)} (hp : L[i]? = some (x, t, es)) : OwnAt h x t es := hL.at i hp

theorem OwnsL.row {h : Hp} {L : List (HV × TypeId × List (List HV))} (hL : OwnsL h L) (i : Nat) {id n : Nat} {t : TypeId} {es : List (List HV)} (hp : L[i]? = some (.ow id 0 n, t, es)) : h[id]? = some (.row t es) := (hL.get i hp).row.1

theorem OwnsL.elems {h : Hp} {L : List (HV × TypeId × List (List HV))} (hL : OwnsL h L) (i : Nat) {x : HV} {t : TypeId} {es : List (List HV)} (hp : L[i]? = some (x, t, es)) : elemsH h x = some es := (hL.get i hp).elems

theorem OwnsL.read {h : Hp} {L : List (HV × TypeId × List (List HV))} (hL : OwnsL h L) (i : Nat) {x : HV} {t : TypeId} {es : List (List HV)} (hp : L[i]? = some (x, t, es)) (hf : HV.freeLL es = true) : ∃ f, rdV h 1 x = some (.sl f es) := (hL.get i hp).read hf

/-- Appending to one of them. -/
theorem OwnsL.append {P : Program} {h : Hp} {T t : TypeId} {k bt : Nat} {z x y : HV} {es ys : List (List HV)} {L : List (HV × TypeId × List (List HV))} (hL : OwnsL h L) (i : Nat) (hi : L[i]? = some (x, t, es))
    (he : elemH P T = some t) (hk : szH P t = some k) (hz : zeroH P t = some z) (hb : bytesH P t = some bt)
    (h1 : 0 < bt) (h2 : z.cells.length = k) (h3 : z.cells.all HV.one = true) (hy : elemsH h y = some ys) (hys : ∀ cs ∈ ys, cs.length = k ∧ cs.all HV.one = true) (hlen : (es.length + ys.length) * bt ≤ 140737488355328) :
    ∃ r, appendH P h h.length T x y = some r ∧ OwnsL (setAll (h ++ r.ns) r.ws) (L.set i (r.x, t, es ++ ys)) := by
  have hx : OwnAt h x t es := hL.at i hi
  obtain ⟨r, hr, hown, hlen', hfr⟩ := hx.append (P := P) (T := T) he hk hz hb h1 h2 h3 hy hys hlen
  have hnew : ∀ id n, r.x = .ow id 0 n → id = h.length := fun id n hid => by
    have e := hr
    unfold appendH at e
    simp only [he, hk, hz, hb, hy] at e
    rw [if_pos ⟨h1, h2, h3, hys⟩] at e
    rcases hx with ⟨rfl, rfl⟩ | ⟨j, rfl, hj⟩
    · simp only at e
      split at e
      · injection e with e; subst e; simp at hid; exact hid.1.symm
      · cases e
    · simp only [hj] at e
      rw [if_pos ⟨trivial, trivial, hlen⟩] at e
      injection e with e; subst e; simp at hid; exact hid.1.symm
  have old : ∀ p ∈ L, ∀ id n, p.1 = .ow id 0 n → id < h.length := fun p hp id n e => by
    have := hL.1 p hp
    rw [e] at this
    exact (List.getElem?_eq_some_iff.1 this.row.1).1
  refine ⟨r, hr, fun p hp => ?_, ?_⟩
  · obtain ⟨j, hj⟩ := List.mem_iff_getElem?.1 hp
    rw [List.getElem?_set] at hj
    split at hj
    · rename_i hij
      subst hij
      split at hj
      · injection hj with hj; subst hj; exact hown
      · cases hj
    · rename_i hij
      have hpo := hL.at j hj
      rcases hpo with ⟨a, b⟩ | ⟨id, a, b⟩
      · exact .inl ⟨a, b⟩
      · refine .inr ⟨id, a, hfr id _ b fun l hl => ?_⟩
        obtain ⟨hi1, hi2⟩ := List.getElem?_eq_some_iff.1 hi
        obtain ⟨hj1, hj2⟩ := List.getElem?_eq_some_iff.1 hj
        have hpw := List.pairwise_iff_getElem.1 hL.2
        rcases Nat.lt_or_gt_of_ne hij with hlt | hlt
        · have := hpw i j hi1 hj1 hlt id l p.2.2.length (by rw [hi2]; exact hl)
          rw [hj2] at this
          exact this a
        · have := hpw j i hj1 hi1 hlt id p.2.2.length l (by rw [hj2]; exact a)
          rw [hi2] at this
          exact this hl
  · rw [List.pairwise_iff_getElem]
    intro a b ha hb hab id n m e1 e2
    have ha' : a < L.length := by simpa using ha
    have hb' : b < L.length := by simpa using hb
    rw [List.getElem_set] at e1 e2
    by_cases hia : i = a
    · rw [if_pos hia] at e1
      rw [if_neg (by omega)] at e2
      have := old _ (List.getElem_mem hb') id m e2
      have := hnew id n e1
      omega
    · rw [if_neg hia] at e1
      by_cases hib : i = b
      · rw [if_pos hib] at e2
        have := old _ (List.getElem_mem ha') id n e1
        have := hnew id m e2
        omega
      · rw [if_neg hib] at e2
        exact List.pairwise_iff_getElem.1 hL.2 a b ha' hb' hab id n m e1 e2

end Go.HL

