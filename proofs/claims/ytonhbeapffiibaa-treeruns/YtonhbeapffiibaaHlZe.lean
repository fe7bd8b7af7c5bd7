/-
  HL, part Ze: drawn regions that write at several places: step by step.
-/
import Derived.Test.YtonhbeapffiibaaHlZd
namespace Go.HL

section
variable {X : PG} {C : Cx} {ops : Array Oper} {e : Env} {h : Hp} {A W : List (List Nat)} {Q : Env → Hp → Prop}

/-- Operations that look at no memory and write none. -/
def Op.dry (own : Bool) : Op → Bool
  | .move _ | .assign _ | .pick _ _ _ | .unOp _ _ _ | .convert _ _ _ | .makeFunc _ _ _ | .fieldAddr _ _ _ | .field _ _ _ | .index _ _ _ | .extract _ _ | .build _ _ => true
  | .binOp op _ _ _ _ => match op with | .eql | .neq => false | _ => true
  | .buildSlice _ _ _ => !own
  | _ => false

theorem Op.dry_plain {own : Bool} {o : Op} (hd : Op.dry own o = true) : Op.plain own o = true := by
  cases o <;> first | rfl | exact hd | simp [Op.dry] at hd

theorem cmpH_dry {P : Program} {h h1 : Hp} {op : BinOp} {t : TypeId} {x yv : HV} {y : Operand} (h2 : op ≠ .eql) (h3 : op ≠ .neq) : cmpH P h1 op t x y yv = cmpH P h op t x y yv := by
  have hq : ∀ b, eqB op b = none := fun b => by cases op <;> simp_all [eqB]
  unfold cmpH
  split <;> simp only [hq, ite_self]

theorem opE_dry {own : Bool} {ρ : Operand → HV} {nid : Nat} {o : Op} {h1 : Hp} (hp : Op.dry own o = true) : opE X own ρ h1 nid o = opE X own ρ h nid o := by
  cases o with
  | binOp op t x y t' =>
    have h2 : op ≠ .eql := fun e => by subst e; simp [Op.dry] at hp
    have h3 : op ≠ .neq := fun e => by subst e; simp [Op.dry] at hp
    simp only [opE, opV, cmpH_dry (h := h) (h1 := h1) h2 h3]
  | _ => first | rfl | simp [Op.dry] at hp

theorem opsD_seg : ∀ (l rest : List Oper) (e : Env) (i : Nat) (nw : List (List Nat)) {e' : Env} {h' : Hp}, (l.all fun o => Op.dry (C.own.contains o.pos) o.op) = true → evalS X C ops l (some (e, h)) = some (e', h') →
    opsD X C ops A W Q rest (i + l.length) (nw ++ List.replicate l.length []) e' h → opsD X C ops A W Q (l ++ rest) i nw e h
  | [], rest, e, i, nw, e', h', _, he, hk => by
    simp only [evalS, Option.some.injEq, Prod.mk.injEq] at he
    obtain ⟨rfl, rfl⟩ := he
    simpa using hk
  | o :: l, rest, e, i, nw, e', h', hp, he, hk => by
    simp only [List.all_cons, Bool.and_eq_true] at hp
    rw [evalS] at he
    simp only [List.cons_append, opsD]
    have hnw : ∀ {e1 : Env}, evalS X C ops l (some (e1, h)) = some (e', h') → opsD X C ops A W Q (l ++ rest) (i + 1) (nw ++ [[]]) e1 h := fun {e1} he1 => by
      refine opsD_seg l rest e1 (i + 1) (nw ++ [[]]) hp.2 he1 ?_
      rw [List.append_assoc]
      simp only [List.length_cons, List.replicate_succ] at hk
      rwa [show i + 1 + l.length = i + (l.length + 1) by omega]
    unfold step1 at he
    simp only at he
    split at he
    · rename_i hw
      rw [hw]
      simp only
      cases hr : opE X (C.own.contains o.pos) (ev X e) h h.length o.op with
      | none => rw [hr, Option.map_none, evalS_none] at he; cases he
      | some r =>
        rw [hr, Option.map_some] at he
        obtain ⟨w1, w2⟩ := opE_plain (Op.dry_plain hp.1) hr
        refine stepD_of ((opE_dry hp.1).trans hr) ⟨by rw [w1]; rfl, ?_⟩
        have : newIds h.length r = [] := by simp [newIds, w1, w2]
        rw [this]
        rw [w1, w2] at he ⊢
        simp only [setAll, List.append_nil] at he ⊢
        exact hnw he
    · rename_i hw
      rw [hw]
      exact hnw he
    · rw [evalS_none] at he; cases he

theorem opsD.seg (k : Nat) {l : List Oper} {i j : Nat} {nw nw' : List (List Nat)} {e' : Env} {h' : Hp} (hp : ((l.take k).all fun o => Op.dry (C.own.contains o.pos) o.op) = true) (hlen : (l.take k).length = k) (hj : i + k = j) (hn : nw ++ List.replicate k [] = nw')
    (he : evalS X C ops (l.take k) (some (e, h)) = some (e', h')) (hk : opsD X C ops A W Q (l.drop k) j nw' e' h) : opsD X C ops A W Q l i nw e h := by
  have := opsD_seg (A := A) (W := W) (Q := Q) (l.take k) (l.drop k) e i nw hp he (by rw [hlen, hj, hn]; exact hk)
  rwa [List.take_append_drop] at this

theorem opsD.step {o : Oper} {l rest : List Oper} {i : Nat} {nw nw' : List (List Nat)} {h1 h2 : Hp} {r : ER} (M : List Nat) (hl : l = o :: rest) (hM : dmask (unordAt A ops.size i) i W nw = M) (hm : mask M h = h1) (hw : wantH e ops o = some true)
    (hr : opE X (C.own.contains o.pos) (ev X e) h1 h.length o.op = some r) (hws : (r.ws.all fun w => (W.getD i []).contains w.1 && liveB h1 w.1) = true) (hn : nw ++ [newIds h.length r] = nw') (hh : setAll (h ++ r.ns) r.ws = h2)
    (hk : opsD X C ops A W Q rest (i + 1) nw' (putE C.N e o.dst r.x) h2) : opsD X C ops A W Q l i nw e h := by
  subst hl; subst hM; subst hm; subst hn; subst hh
  simp only [opsD]
  rw [hw]
  exact stepD_of hr ⟨hws, hk⟩

theorem opsD.callL [PG.Flat X] {l rest : List Oper} {i : Nat} {nw nw' : List (List Nat)} {h1 : Hp} {dst : Option Tmp} {f : Operand} {args : Array Operand} {ts : Array TypeId} {ty : TypeId} {pos : String} {after : Array Edge} {gd : Option (Nat × Bool)} {g : FuncId} {xs xs' : List HV} {v : HV} (M : List Nat)
    (hl : l = ⟨dst, .call ⟨.value f, args, ts⟩, ty, pos, after, gd⟩ :: rest) (hM : dmask (unordAt A ops.size i) i W nw = M) (hm : mask M h = h1) (hw : wantH e ops ⟨dst, .call ⟨.value f, args, ts⟩, ty, pos, after, gd⟩ = some true) (hf : ev X e f = .fn (.func g) [] []) (hen : entersH X.P g = true)
    (hx : args.toList.map (ev X e) = xs) (hrd : ∀ h', hle h1 h' → rdL h' 1 xs = some xs') (hP : CallsP X g xs' (fun r => r = v)) (hv : v.flat = true) (hn : nw ++ [[]] = nw') (hk : opsD X C ops A W Q rest (i + 1) nw' (putE C.N e dst v) h) : opsD X C ops A W Q l i nw e h := by
  subst hl; subst hM; subst hm; subst hn; subst hx
  simp only [opsD]
  rw [hw]
  simp only [stepD, hf]
  refine ⟨hen, v, [], fun h' hh' => ?_, rfl, ?_⟩
  · rw [List.nil_append, List.append_nil]
    exact hP.lend 1 (hrd h' hh') (fun r hr => by subst hr; exact hv) fun r hr => ⟨hr, rfl⟩
  · have : newIds h.length ({ x := v, ws := [] } : ER) = [] := rfl
    rw [this]
    simpa [setAll] using hk

theorem keep_at {F : List Nat} {id : Nat} {o : HO} (hF : id ∈ F) (ho : h[id]? = some o) : (keepF F h)[id]? = some o := by
  simp [keepF, ho, hF]

theorem goneF_one (id : Nat) (h : Hp) : goneF [id] h = h.set id .gone := by
  apply List.ext_getElem?
  intro i
  simp only [goneF, List.getElem?_mapIdx, List.getElem?_set]
  by_cases hi : id = i
  · subst hi
    by_cases hl : id < h.length
    · simp [hl]
    · simp [hl]
  · have : ¬ i = id := fun e => hi e.symm
    simp [hi, this]

/-- A call that is handed an own row for good. -/
theorem opsD.callG [PG.Flat X] {l rest : List Oper} {i : Nat} {nw nw' : List (List Nat)} {h1 h2 : Hp} {dst : Option Tmp} {f : Operand} {args : Array Operand} {ts : Array TypeId} {ty : TypeId} {pos : String} {after : Array Edge} {gd : Option (Nat × Bool)} {g : FuncId} {xs xs' : List HV} {v : HV} (id : Nat) (M : List Nat)
    (hl : l = ⟨dst, .call ⟨.value f, args, ts⟩, ty, pos, after, gd⟩ :: rest) (hM : dmask (unordAt A ops.size i) i W nw = M) (hm : mask M h = h1) (hw : wantH e ops ⟨dst, .call ⟨.value f, args, ts⟩, ty, pos, after, gd⟩ = some true) (hf : ev X e f = .fn (.func g) [] []) (hen : entersH X.P g = true)
    (hx : args.toList.map (ev X e) = xs) (hrd : ∀ h', hle h1 h' → rdL (keepF [id] h') 1 xs = some xs') (hP : CallsP X g xs' (fun r => r = v)) (hws : ((W.getD i []).contains id && liveB h1 id) = true) (hn : nw ++ [[id]] = nw') (hh : h.set id .gone = h2) (hk : opsD X C ops A W Q rest (i + 1) nw' (putE C.N e dst v) h2) : opsD X C ops A W Q l i nw e h := by
  subst hl; subst hM; subst hm; subst hn; subst hx; subst hh
  simp only [opsD]
  rw [hw]
  simp only [stepD, hf]
  refine ⟨hen, v, [(id, .gone)], fun h' hh' => ?_, by simpa using hws, ?_⟩
  · rw [List.nil_append, List.append_nil]
    exact hP.call [id] 1 (hrd h' hh') fun r hr => ⟨hr, by rw [goneF_one]; rfl⟩
  · have : newIds h.length ({ x := v, ws := [(id, .gone)] } : ER) = [id] := rfl
    rw [this]
    simpa [setAll] using hk

theorem opsD.fin {l : List Oper} {i : Nat} {nw : List (List Nat)} (hl : l = []) (hq : Q e h) : opsD X C ops A W Q l i nw e h := by
  subst hl; exact hq

theorem WP.regionDA {id : Nat} {Q : Exit → Env → Hp → Prop} (W : List (List Nat)) (hm : X.P.follows .mixedOrders = true) (hok : okD ops (ancT [] ops.toList) = true) (hs : opsD X C ops (ancT [] ops.toList) W (fun e h => Q .normal e h) ops.toList 0 [] e h) : WP X C (.region id ops true) Q e h :=
  WP.regionD hm _ W hok hs

theorem opE_load {own : Bool} {ρ : Operand → HV} {nid : Nat} {t : TypeId} {a : Operand} : opE X own ρ h nid (.load t a) = (loadH X.P h t (ρ a)).map fun x => { x := x } := rfl

theorem opE_slice {own : Bool} {ρ : Operand → HV} {nid : Nat} {t : TypeId} {x : Operand} {lo hi mx : Option Operand} : opE X own ρ h nid (.slice t x lo hi mx) = (sliceH X.P h t (ρ x) (lo.map ρ) (hi.map ρ) (mx.map ρ)).map fun x => { x := x } := rfl

theorem rdV_ow {id : Nat} {t : TypeId} {zs : List (List HV)} (hr : h[id]? = some (.row t zs)) (hz : HV.freeLL zs = true) : rdV h 1 (.ow id 0 zs.length) = some (.sl false zs) := by
  simp [rdV, hr, rdLL_free 0 zs hz]

end

end Go.HL

