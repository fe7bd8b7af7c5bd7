/-
  HL, part Zk: a call that makes new objects alone and hands back data of theirs: as if it had made none.
-/
import Derived.Test.YtonhbeapffiibaaHlZj
namespace Go.HL

theorem RV.back {K K' K2 : KS} (hA : ∀ id, K.A id → K2.A id) (hw : K2.w = K'.w) (hb : K2.b = K'.b) (hc : K2.c = K'.c) (hk : K2.k = K'.k) (hL : ∀ b, K2.L b → K'.L b) {x : HV} {v : Value} (hr : RV K' x v) : ∀ {u : Value}, RV K x u → RV K2 x v := by
  induction hr with
  | bool b => intro u _; exact .bool b
  | int k n => intro u _; exact .int k n
  | str s => intro u _; exact .str s
  | nul v hv => intro u _; exact .nul v hv
  | sl0 full a cap h1 h2 h3 => intro u _; exact .sl0 full a cap h1 h2 h3
  | sl full es k b off cap cv h0 h1 h2 h3 hbk hLk hkk hcc _ ih =>
    intro u hu
    refine .sl full es k b off cap cv h0 h1 h2 h3 (by rw [hw]; exact hbk) (fun h => hLk (hL b h)) hkk (fun i hi j hj => by rw [hw]; exact hcc i hi j hj) fun i hi j hj => ?_
    cases hu with
    | sl0 => simp at h0
    | sl _ _ k' b' off' cap' cv' _ _ _ _ _ _ _ _ hr' => exact ih i hi j hj (hr' i hi j hj)
  | ow id lo len hA' h0 h1 h2 =>
    intro u hu
    have hid : K.A id := by cases hu <;> assumption
    rw [← hb, ← hc, ← hk]
    exact .ow id lo len (hA id hid) (by rw [hc]; exact h0) (by rw [hc]; exact h1) (by rw [hc]; exact h2)
  | ow0 id a hA' h0 =>
    intro u hu
    have hid : K.A id := by cases hu <;> assumption
    exact .ow0 id a (hA id hid) (by rw [hc]; exact h0)
  | ip cs b off cv hbk hLk hcc _ ih =>
    intro u hu
    refine .ip cs b off cv (by rw [hw]; exact hbk) (fun h => hLk (hL b h)) (fun j hj => by rw [hw]; exact hcc j hj) fun j hj => ?_
    cases hu with
    | ip _ _ _ _ _ _ _ hr' => exact ih j hj (hr' j hj)
  | ep id i off hA' =>
    intro u hu
    have hid : K.A id := by cases hu; assumption
    rw [← hb, ← hk]
    exact .ep id i off (hA id hid)
  | mp id hA' =>
    intro u hu
    have hid : K.A id := by cases hu; assumption
    rw [← hb]
    exact .mp id (hA id hid)
  | it id hA' =>
    intro u hu
    have hid : K.A id := by cases hu; assumption
    rw [← hb]
    exact .it id (hA id hid)
  | fn f fs cs vs us h1 h2 _ _ ih1 ih2 =>
    intro u hu
    cases hu with
    | fn _ _ _ vs' us' _ _ r1 r2 => exact .fn f fs cs vs us h1 h2 (fun i hi => ih1 i hi (r1 i hi)) (fun i hi => ih2 i hi (r2 i hi))
  | agg cs vs h1 _ ih =>
    intro u hu
    cases hu with
    | agg _ vs' _ r1 => exact .agg cs vs h1 (fun i hi => ih i hi (r1 i hi))
  | tup cs vs h1 _ ih =>
    intro u hu
    cases hu with
    | tup _ vs' _ r1 => exact .tup cs vs h1 (fun i hi => ih i hi (r1 i hi))
  | und v => intro u _; exact .und v

section
variable {X : PG}

theorem CallsH.fresh {f : FuncId} {args : List HV} {h : Hp} {v0 : HV} (hc : CallsH X f args h fun r h' => (∀ id, id < h.length → h'[id]? = h[id]?) ∧ h.length ≤ h'.length ∧ ∃ n, rdV (newOf h.length h') n r = some v0) : CallsH X f args h fun r h' => r = v0 ∧ h' = h := by
  intro K vs ha hh
  refine (hc K vs ha hh).mono fun en w' hp => ?_
  obtain ⟨v, K', r, h', rfl, rfl, x, hh', hrv, hsame, hlen, n, hy⟩ := hp
  have hnew : RH X K' (newOf h.length h') := hh'.fewer (by simp [newOf]) (fun id o hl ho => (newOf_get hl ho).1)
  have hnv : ∀ id, liveAt K' (newOf h.length h') id → liveAt K' h' id ∧ h.length ≤ id := fun id ⟨hA, ⟨o, ho, hl⟩, hc⟩ => ⟨⟨hA, ⟨o, (newOf_get hl ho).1, hl⟩, hc⟩, (newOf_get hl ho).2⟩
  let K2 : KS := { w := K'.w, L := fun b => K'.L b ∧ ∀ id, liveAt K' (newOf h.length h') id → K'.b id ≠ b, A := K.A, b := K'.b, c := K'.c, k := K'.k }
  have hle0 : K.le K' := x.le hh
  have hle : K.le K2 := ⟨hle0.size, hle0.block, fun b hb => hle0.L b hb.1, fun i hi => ⟨hi, (hle0.A i hi).2⟩⟩
  have back : ∀ {y : HV} {v u : Value}, RV K' y v → RV K y u → RV K2 y v := fun h1 h2 => RV.back (K := K) (K' := K') (K2 := K2) (fun _ h => h) rfl rfl rfl rfl (fun b hb => hb.1) h1 h2
  have hlv : ∀ id, liveAt K2 h id → liveAt K h id ∧ liveAt K' h' id := fun id ⟨hA, ⟨o, ho, hl⟩, hc⟩ => by
    have hlt := hh.A id hA
    obtain ⟨a1, a2, a3, a4⟩ := hle0.A id hA
    exact ⟨⟨hA, ⟨o, ho, hl⟩, by rw [← a3]; exact hc⟩, ⟨a1, ⟨o, by rw [hsame id hlt]; exact ho, hl⟩, hc⟩⟩
  refine ⟨v, K2, v0, h, rfl, rfl, ?_, ?_, ?_, rfl, rfl⟩
  · refine ⟨⟨x.os, x.tape, x.output, x.size, x.block, fun id hl => ?_, fun b hb => x.L b hb.1, fun b hb hk => ⟨x.keep b hb hk, fun id hl e => ?_⟩, fun i hi => ⟨hi, (hle0.A i hi).2⟩⟩, Nat.le_refl _, fun i hi => .inl hi⟩
    · exact .inl ⟨id, (hlv id hl).1, ((hle0.A id hl.1).2.1).symm⟩
    · rcases x.new id (hnv id hl).1 with ⟨i, hi, hib⟩ | hs
      · exact hk i hi (hib.trans e)
      · have := hh.Lb b hb; omega
  · refine ⟨hh.A, fun id o hA ho => ?_, fun id hl => ⟨hh'.live id (hlv id hl).2, fun id' hl' e => ?_⟩, fun i j hi hj e => hh'.inj i j (hlv i hi).2 (hlv j hj).2 e, fun b hb => hh'.Lb b hb.1, ?_⟩
    · obtain ⟨a1, a2, a3, a4⟩ := hle0.A id hA
      have ho' : h'[id]? = some o := by rw [hsame id (hh.A id hA)]; exact ho
      have r1 := hh.obj id o hA ho
      have r2 := hh'.obj id o a1 ho'
      cases o with
      | row t es =>
        obtain ⟨p1, p2, p3⟩ := r1
        obtain ⟨q1, q2, q3⟩ := r2
        refine ⟨q1, q2, fun hne => ?_⟩
        obtain ⟨cur, c1, c2, c3, c4, c5, c6, c7⟩ := q3 hne
        obtain ⟨cur0, d1, d2, d3, d4, d5, d6, d7⟩ := p3 (by rw [← a3]; exact hne)
        refine ⟨cur, c1, c2, c3, c4, c5, c6, fun i hi j hj => ?_⟩
        obtain ⟨w1, e1, e2⟩ := c7 i hi j hj
        obtain ⟨w0, e3, e4⟩ := d7 i hi j hj
        exact ⟨w1, e1, back e2 e4⟩
      | map kvs clock =>
        obtain ⟨p1, es0, p2, p3⟩ := r1
        obtain ⟨q1, es, q2, q3⟩ := r2
        refine ⟨q1, es, q2, q3.1, fun i y hy => ?_⟩
        obtain ⟨m, m1, m2, m3, m4⟩ := q3.2 i y hy
        obtain ⟨m', k1, k2, k3, k4⟩ := p3.2 i y hy
        exact ⟨m, m1, back m2 k2, back m3 k3, m4⟩
      | iter m since seen last => exact ⟨r2.1, r1.2.1, r2.2.2⟩
      | sit s pos => exact r2
      | loop l r => exact r2
      | gone => trivial
    · have := hh'.inj id' id (hnv id' hl').1 (hlv id hl).2 e
      have h1 := (hnv id' hl').2
      have h2 := hh.A id hl.1
      omega
    · exact ⟨fun g => back (hh'.glob.var g) (hh.glob.var g), Nat.le_trans hh.glob.low hle0.size, X.mono _ _ hle hh.glob.inv⟩
  · exact rdV_sound (K' := K2) hnew rfl (fun b hb => hb.1) (fun id hl hb => hb.2 id hl rfl) n hrv hy

end

end Go.HL

/-
  HL, part Zl: the scope of a label through which no jump goes.
-/
namespace Go.HL

section
variable {P : Program} {F : Fence} {n : Nat} {b : Frame} {a : Act} {k : List Item} {cs : List Frame} {w : World}

theorem stepR_scope {c : Code} : step P (lone (b.atR a (.code (.scope c) :: k)) cs w) = .next (lone (b.atR a (.code c :: .inScope c :: k)) cs w) :=
  step_lone_go (by simp [stepG, stepG.exec, Frame.atR])
theorem stepR_inScope {c : Code} : step P (lone (b.atR a (.inScope c :: k)) cs w) = .next (lone (b.atR a k) cs w) :=
  step_lone_go (by simp [stepG, stepG.exec, Frame.atR])

theorem wpIn_scope {c : Code} {Q : Exit → Act → World → Prop} (h : c.wpIn F n P (fun ex a w => match ex with | .goto _ => False | e => Q e a w) a w) : (Code.scope c).wpIn F n P Q a w := by
  intro b k cs hro hb hr
  have h0 : (lone (b.atR a (.code (.scope c) :: k)) cs w).fenced P F := fenced_calm hb hr rfl
  obtain ⟨e, a₁, w₁, hq, harr⟩ := h b (.inScope c :: k) cs hro hb hr
  cases e with
  | normal => exact ⟨.normal, a₁, w₁, hq, .head h0 stepR_scope (StepsIn.trans harr (.one (fenced_calm hb hr rfl) stepR_inScope))⟩
  | exit id =>
    have hx : exitTo id (.inScope c :: k) = exitTo id k := by simp [exitTo]
    exact ⟨.exit id, a₁, w₁, hq, fun k' hk => .head h0 stepR_scope (harr.1 k' (by rw [hx]; exact hk)),
      fun hr' hk => let ⟨k₁, h1, h2⟩ := harr.2 hr' (by rw [hx]; exact hk); ⟨k₁, h1, .head h0 stepR_scope h2⟩⟩
  | goto l => exact hq.elim
  | ret => exact ⟨_, a₁, w₁, hq, .of_steps (.one h0 stepR_scope) harr⟩
  | panic ch => exact ⟨_, a₁, w₁, hq, .of_steps (.one h0 stepR_scope) harr⟩
  | outgrown => exact ⟨_, a₁, w₁, hq, .of_steps (.one h0 stepR_scope) harr⟩
end

/-- What is asked behind a scope: no jump leaves it. -/
def scopeK (Q : Exit → Env → Hp → Prop) : Exit → Env → Hp → Prop
  | .goto _, _, _ => False
  | ex, e, h => Q ex e h

section
variable {X : PG} {C : Cx} {Q : Exit → Env → Hp → Prop} {e : Env} {h : Hp}

theorem WP.scope {c : Code} (hx : WP X C c (scopeK Q) e h) : WP X C (.scope c) Q e h := by
  intro K B a he hh
  refine wpIn_scope (wpIn_mono (hx K B a he hh) fun ex a' w' hp => ?_)
  obtain ⟨K', e', h', hw, x1, r1, r2, q⟩ := hp
  cases ex with
  | goto l => exact q.elim
  | normal => exact ⟨K', e', h', hw, x1, r1, r2, q⟩
  | exit id => exact ⟨K', e', h', hw, x1, r1, r2, q⟩
  | ret => exact ⟨K', e', h', hw, x1, r1, r2, q⟩
  | panic ch => exact ⟨K', e', h', hw, x1, r1, r2, q⟩
  | outgrown => exact ⟨K', e', h', hw, x1, r1, r2, q⟩

theorem scopeK_normal (hq : Q .normal e h) : scopeK Q .normal e h := hq
theorem scopeK_exit {id : Nat} (hq : Q (.exit id) e h) : scopeK Q (.exit id) e h := hq
theorem scopeK_ret (hq : Q .ret e h) : scopeK Q .ret e h := hq
end

end Go.HL

