/-
  HL, part Zk: a call that makes new objects alone and hands back data of theirs: as if it had made none.
-/
import Derived.Test.YtonhbeapffiibaaHlZj
namespace Go.HL

theorem RV.back {K K' K2 : KS} (hA : ∀ id, K.A id → K2.A id) (hw : K2.w = K'.w) (hb : K2.b = K'.b) (hc : K2.c = K'.c) (hk : K2.k = K'.k) (hL : ∀ b, K2.L b → K'.L b) {x : HV} {v : Value} (hr : RV K' x v) : ∀ {u : Value}, RV K x u → RV K2 x v := by
  induction hr with
  | bool b => intro u _; exact .bool b
  | int k n => intro u _; exact .int k n
  | str s => intro u _; exact .str s
  | nul v hv => intro u _; exact .nul v hv
  | sl0 full a cap h1 h2 h3 => intro u _; exact .sl0 full a cap h1 h2 h3
  | sl full es k b off cap cv h0 h1 h2 h3 hbk hLk hkk hcc _ ih =>
    intro u hu
    refine .sl full es k b off cap cv h0 h1 h2 h3 (by rw [hw]; exact hbk) (fun h => hLk (hL b h)) hkk (fun i hi j hj => by rw [hw]; exact hcc i hi j hj) fun i hi j hj => ?_
    cases hu with
    | sl0 => simp at h0
    | sl _ _ k' b' off' cap' cv' _ _ _ _ _ _ _ _ hr' => exact ih i hi j hj (hr' i hi j hj)
  | ow id lo len hA' h0 h1 h2 =>
    intro u hu
    have hid : K.A id := by cases hu <;> assumption
    rw [← hb, ← hc, ← hk]
    exact .ow id lo len (hA id hid) (by rw [hc]; exact h0) (by rw [hc]; exact h1) (by rw [hc]; exact h2)
  | ow0 id a hA' h0 =>
    intro u hu
    have hid : K.A id := by cases hu <;> assumption
    exact .ow0 id a (hA id hid) (by rw [hc]; exact h0)
  | ip cs b off cv hbk hLk hcc _ ih =>
    intro u hu
    refine .ip cs b off cv (by rw [hw]; exact hbk) (fun h => hLk (hL b h)) (fun j hj => by rw [hw]; exact hcc j hj) fun j hj => ?_
    cases hu with
    | ip _ _ _ _ _ _ _ hr' => exact ih j hj (hr' j hj)
  | ep id i off hA' =>
    intro u hu
    have hid : K.A id := by cases hu; assumption
    rw [← hb, ← hk]
    exact .ep id i off (hA id hid)
  | mp id hA' =>
    intro u hu
    have hid : K.A id := by cases hu; assumption
    rw [← hb]
    exact .mp id (hA id hid)
  | it id hA' =>
    intro u hu
    have hid : K.A id := by cases hu; assumption
    rw [← hb]
    exact .it id (hA id hid)
  | fn f fs cs vs us h1 h2 _ _ ih1 ih2 =>
    intro u hu
    cases hu with
    | fn _ _ _ vs' us' _ _ r1 r2 => exact .fn f fs cs vs us h1 h2 (fun i hi => ih1 i hi (r1 i hi)) (fun i hi => ih2 i hi (r2 i hi))
  | agg cs vs h1 _ ih =>
    intro u hu
    cases hu with
    | agg _ vs' _ r1 => exact .agg cs vs h1 (fun i hi => ih i hi (r1 i hi))
  | tup cs vs h1 _ ih =>
    intro u hu
    cases hu with
    | tup _ vs' _ r1 => exact .tup cs vs h1 (fun i hi => ih i hi (r1 i hi))
  | und v => intro u _; exact .und v

section
variable {X : PG}

theorem CallsH.fresh {f : FuncId} {args : List HV} {h : Hp} {v0 : HV} (hc : CallsH X f args h fun r h' => (∀ id, id < h.length → h'[id]? = h[id]?) ∧ h.length ≤ h'.length ∧ ∃ n, rdV (newOf h.length h') n r = some v0) : CallsH X f args h fun r h' => r = v0 ∧ h' = h := by
  intro K vs ha hh
  refine (hc K vs ha hh).mono fun en w' hp => ?_
  obtain ⟨v, K', r, h', rfl, rfl, x, hh', hrv, hsame, hlen, n, hy⟩ := hp
  have hnew : RH X K' (newOf h.length h') := hh'.fewer (by simp [newOf]) (fun id o hl ho => (newOf_get hl ho).1)
  have hnv : ∀ id, liveAt K' (newOf h.length h') id → liveAt K' h' id ∧ h.length ≤ id := fun id ⟨hA, ⟨o, ho, hl⟩, hc⟩ => ⟨⟨hA, ⟨o, (newOf_get hl ho).1, hl⟩, hc⟩, (newOf_get hl ho).2⟩
  let K2 : KS := { w := K'.w, L := fun b => K'.L b ∧ ∀ id, liveAt K' (newOf h.length h') id → K'.b id ≠ b, A := K.A, b := K'.b, c := K'.c, k := K'.k }
  have hle0 : K.le K' := x.le hh
  have hle : K.le K2 := ⟨hle0.size, hle0.block, fun b hb => hle0.L b hb.1, fun i hi => ⟨hi, (hle0.A i hi).2⟩⟩
  have back : ∀ {y : HV} {v u : Value}, RV K' y v → RV K y u → RV K2 y v := fun h1 h2 => RV.back (K := K) (K' := K') (K2 := K2) (fun _ h => h) rfl rfl rfl rfl (fun b hb => hb.1) h1 h2
  have hlv : ∀ id, liveAt K2 h id → liveAt K h id ∧ liveAt K' h' id := fun id ⟨hA, ⟨o, ho, hl⟩, hc⟩ => by
    have hlt := hh.A id hA
    obtain ⟨a1, a2, a3, a4⟩ := hle0.A id hA
    exact ⟨⟨hA, ⟨o, ho, hl⟩, by rw [← a3]; exact hc⟩, ⟨a1, ⟨o, by rw [hsame id hlt]; exact ho, hl⟩, hc⟩⟩
  refine ⟨v, K2, v0, h, rfl, rfl, ?_, ?_, ?_, rfl, rfl⟩
  · refine ⟨⟨x.os, x.tape, x.output, x.size, x.block, fun id hl => ?_, fun b hb => x.L b hb.1, fun b hb hk => ⟨x.keep b hb hk, fun id hl e => ?_⟩, fun i hi => ⟨hi, (hle0.A i hi).2⟩⟩, Nat.le_refl _, fun i hi => .inl hi⟩
    · exact .inl ⟨id, (hlv id hl).1, ((hle0.A id hl.1).2.1).symm⟩
    · rcases x.new id (hnv id hl).1 with ⟨i, hi, hib⟩ | hs
      · exact hk i hi (hib.trans e)
      · have := hh.Lb b hb; omega
  · refine ⟨hh.A, fun id o hA ho => ?_, fun id hl => ⟨hh'.live id (hlv id hl).2, fun id' hl' e => ?_⟩, fun i j hi hj e => hh'.inj i j (hlv i hi).2 (hlv j hj).2 e, fun b hb => hh'.Lb b hb.1, ?_⟩
    · obtain ⟨a1, a2, a3, a4⟩ := hle0.A id hA
      have ho' : h'[id]? = some o := by rw [hsame id (hh.A id hA)]; exact ho
      have r1 := hh.obj id o hA ho
      have r2 := hh'.obj id o a1 ho'
      cases o with
      | row t es =>
        obtain ⟨p1, p2, p3⟩ := r1
        obtain ⟨q1, q2, q3⟩ := r2
        refine ⟨q1, q2, fun hne => ?_⟩
        obtain ⟨cur, c1, c2, c3, c4, c5, c6, c7⟩ := q3 hne
        obtain ⟨cur0, d1, d2, d3, d4, d5, d6, d7⟩ := p3 (by rw [← a3]; exact hne)
        refine ⟨cur, c1, c2, c3, c4, c5, c6, fun i hi j hj => ?_⟩
        obtain ⟨w1, e1, e2⟩ := c7 i hi j hj
        obtain ⟨w0, e3, e4⟩ := d7 i hi j hj
        exact ⟨w1, e1, back e2 e4⟩
      | map kvs clock =>
        obtain ⟨p1, es0, p2, p3⟩ := r1
        obtain ⟨q1, es, q2, q3⟩ := r2
        refine ⟨q1, es, q2, q3.1, fun i y hy => ?_⟩
        obtain ⟨m, m1, m2, m3, m4⟩ := q3.2 i y hy
        obtain ⟨m', k1, k2, k3, k4⟩ := p3.2 i y hy
        exact ⟨m, m1, back m2 k2, back m3 k3, m4⟩
      | iter m since seen last => exact ⟨r2.1, r1.2.1, r2.2.2⟩
      | sit s pos => exact r2
      | loop l r => exact r2
      | gone => trivial
    · have := hh'.inj id' id (hnv id' hl').1 (hlv id hl).2 e
      have h1 := (hnv id' hl').2
      have h2 := hh.A id hl.1
      omega
    · exact ⟨fun g => back (hh'.glob.var g) (hh.glob.var g), Nat.le_trans hh.glob.low hle0.size, X.mono _ _ hle hh.glob.inv⟩
  · exact rdV_sound (K' := K2) hnew rfl (fun b hb => hb.1) (fun id hl hb => hb.2 id hl rfl) n hrv hy

end

end Go.HL

/-
  HL, part Zl: the scope of a label through which no jump goes.
-/
namespace Go.HL

section
variable {P : Program} {F : Fence} {n : Nat} {b : Frame} {a : Act} {k : List Item} {cs : List Frame} {w : World}

theorem stepR_scope {c : Code} : step P (lone (b.atR a (.code (.scope c) :: k)) cs w) = .next (lone (b.atR a (.code c :: .inScope c :: k)) cs w) :=
  step_lone_go (by simp [stepG, stepG.exec, Frame.atR])
theorem stepR_inScope {c : Code} : step P (lone (b.atR a (.inScope c :: k)) cs w) = .next (lone (b.atR a k) cs w) :=
  step_lone_go (by simp [stepG, stepG.exec, Frame.atR])

theorem wpIn_scope {c : Code} {Q : Exit → Act → World → Prop} (h : c.wpIn F n P (fun ex a w => match ex with | .goto _ => False | e => Q e a w) a w) : (Code.scope c).wpIn F n P Q a w := by
  intro b k cs hro hb hr
  have h0 : (lone (b.atR a (.code (.scope c) :: k)) cs w).fenced P F := fenced_calm hb hr rfl
  obtain ⟨e, a₁, w₁, hq, harr⟩ := h b (.inScope c :: k) cs hro hb hr
  cases e with
  | normal => exact ⟨.normal, a₁, w₁, hq, .head h0 stepR_scope (StepsIn.trans harr (.one (fenced_calm hb hr rfl) stepR_inScope))⟩
  | exit id =>
    have hx : exitTo id (.inScope c :: k) = exitTo id k := by simp [exitTo]
    exact ⟨.exit id, a₁, w₁, hq, fun k' hk => .head h0 stepR_scope (harr.1 k' (by rw [hx]; exact hk)),
      fun hr' hk => let ⟨k₁, h1, h2⟩ := harr.2 hr' (by rw [hx]; exact hk); ⟨k₁, h1, .head h0 stepR_scope h2⟩⟩
  | goto l => exact hq.elim
  | ret => exact ⟨_, a₁, w₁, hq, .of_steps (.one h0 stepR_scope) harr⟩
  | panic ch => exact ⟨_, a₁, w₁, hq, .of_steps (.one h0 stepR_scope) harr⟩
  | outgrown => exact ⟨_, a₁, w₁, hq, .of_steps (.one h0 stepR_scope) harr⟩
end

/-- What is asked behind a scope: no jump leaves it. -/
def scopeK (Q : Exit → Env → Hp → Prop) : Exit → Env → Hp → Prop
  | .goto _, _, _ => False
  | ex, e, h => Q ex e h

section
variable {X : PG} {C : Cx} {Q : Exit → Env → Hp → Prop} {e : Env} {h : Hp}

theorem WP.scope {c : Code} (hx : WP X C c (scopeK Q) e h) : WP X C (.scope c) Q e h := by
  intro K B a he hh
  refine wpIn_scope (wpIn_mono (hx K B a he hh) fun ex a' w' hp => ?_)
  obtain ⟨K', e', h', hw, x1, r1, r2, q⟩ := hp
  cases ex with
  | goto l => exact q.elim
  | normal => exact ⟨K', e', h', hw, x1, r1, r2, q⟩
  | exit id => exact ⟨K', e', h', hw, x1, r1, r2, q⟩
  | ret => exact ⟨K', e', h', hw, x1, r1, r2, q⟩
  | panic ch => exact ⟨K', e', h', hw, x1, r1, r2, q⟩
  | outgrown => exact ⟨K', e', h', hw, x1, r1, r2, q⟩

theorem scopeK_normal (hq : Q .normal e h) : scopeK Q .normal e h := hq
theorem scopeK_exit {id : Nat} (hq : Q (.exit id) e h) : scopeK Q (.exit id) e h := hq
theorem scopeK_ret (hq : Q .ret e h) : scopeK Q .ret e h := hq
end

end Go.HL

/-
  HL, part Zm: an own object is given up in the midst of a function: what refers to it is read as immutable data from then on.
-/
namespace Go.HL

section
variable {X : PG} {C : Cx} {Q : Exit → Env → Hp → Prop} {e : Env} {h : Hp}

theorem WP.freeze {c : Code} (F : List Nat) (n : Nat) (e' : Env) (he : ∀ i, e' i = e i ∨ rdV (keepF F h) n (e i) = some (e' i)) (hw : WP X C c Q e' (goneF F h)) : WP X C c Q e h := by
  intro K B a hr hh
  let K0 : KS := { K with L := fun b => K.L b ∧ ∀ id, liveAt K (keepF F h) id → K.b id ≠ b }
  have hL0 : ∀ b, K0.L b → K.L b := fun b hb => hb.1
  have hkeep : RH X K (keepF F h) := hh.fewer (by simp [keepF]) (fun id o hl ho => (keepF_get ho hl).1)
  have hle : K.le K0 := ⟨Nat.le_refl _, fun _ _ _ => rfl, fun b hb => .inl (hL0 b hb), fun _ h => ⟨h, rfl, rfl, rfl⟩⟩
  have back : ∀ i, liveAt K0 (goneF F h) i → liveAt K h i ∧ ¬ i ∈ F := fun i ⟨hA, ⟨o, ho, hl⟩, hc⟩ => ⟨⟨hA, ⟨o, (goneF_get ho hl).1, hl⟩, hc⟩, (goneF_get ho hl).2⟩
  have kept : ∀ i, liveAt K (keepF F h) i → liveAt K h i ∧ i ∈ F := fun i ⟨hA, ⟨o, ho, hl⟩, hc⟩ => ⟨⟨hA, ⟨o, (keepF_get ho hl).1, hl⟩, hc⟩, (keepF_get ho hl).2⟩
  have hr0 : RE K0 B C.N e' a := ⟨hr.size, fun t => by
    rcases he t with h1 | h1
    · rw [h1]; exact (hr.tmps t).mono hle
    · exact rdV_sound (K' := K0) hkeep rfl hL0 (fun id hl hb => hb.2 id hl rfl) n (hr.tmps t) h1, hr.defers, hr.le⟩
  have hh0 : RH X K0 (goneF F h) := by
    refine ⟨fun id hA => by simpa [goneF] using hh.A id hA, fun id o hA ho => ?_, fun id hl => ⟨hh.live id (back id hl).1, fun j hj e => ?_⟩, fun i j hi hj e => hh.inj i j (back i hi).1 (back j hj).1 e, fun b hb => hh.Lb b (hL0 b hb), hh.glob.mono hle⟩
    · by_cases hl : o.live = true
      · exact (hh.obj id o hA (goneF_get ho hl).1).mono hle hA (fun _ _ _ => rfl)
      · cases o <;> first | trivial | exact absurd rfl hl
    · have := hh.inj j id (kept j hj).1 (back id hl).1 e
      exact (back id hl).2 (this ▸ (kept j hj).2)
  have x0 : ExtA K h K0 (goneF F h) := by
    refine ⟨⟨rfl, rfl, rfl, Nat.le_refl _, fun b hb _ => rfl, fun id hl => .inl ⟨id, (back id hl).1, rfl⟩, fun b hb => .inl (hL0 b hb), fun b hb hn => ⟨hb, fun id hl => hn id (kept id hl).1⟩, fun _ h => ⟨h, rfl, rfl, rfl⟩⟩, by simp [goneF], fun _ h => .inl h⟩
  exact wpIn_mono (hw K0 B a hr0 hh0) fun _ _ _ hp => Post.trans x0 hh hp

/-- One row that one slot refers to. -/
theorem WP.freezeRow {c : Code} (i : Nat) {id : Nat} {t : TypeId} {es : List (List HV)} (hi : e i = .ow id 0 es.length) (ho : h[id]? = some (.row t es)) (hf : HV.freeLL es = true) (hw : WP X C c Q (upd e i (.sl false es)) (h.set id .gone)) : WP X C c Q e h := by
  rw [← goneF_one] at hw
  refine WP.freeze [id] 1 _ (fun j => ?_) hw
  by_cases hj : j = i
  · subst hj
    right
    rw [hi]
    have := rdV_row (m := 0) (h := keepF [id] h) (id := id) (t := t) (es := es) (n := es.length) (keep_at (by simp) ho) rfl hf
    simpa [upd] using this
  · left; simp [upd, hj]
/-- Of the capacity of a slot's slice nothing is said any more. -/
theorem WP.dimE {c : Code} (e' : Env) (he : ∀ i, e' i = e i ∨ e' i = (e i).dim) (hw : WP X C c Q e' h) : WP X C c Q e h := fun K B a hr hh =>
  hw K B a ⟨hr.size, fun t => by
    rcases he t with h1 | h1
    · rw [h1]; exact hr.tmps t
    · rw [h1]; exact (hr.tmps t).dim, hr.defers, hr.le⟩ hh

theorem WP.dimSlot {c : Code} (i : Nat) {x : HV} (hi : (e i).dim = x) (hw : WP X C c Q (upd e i x) h) : WP X C c Q e h := by
  refine WP.dimE _ (fun j => ?_) hw
  by_cases hj : j = i
  · subst hj; right; simp [upd, hi]
  · left; simp [upd, hj]

/-- A list that one slot refers to: from now on immutable. -/
theorem WP.freezeOwn {c : Code} (i : Nat) {t : TypeId} {es : List (List HV)} (ho : OwnAt h (e i) t es) (hf : HV.freeLL es = true) (hw : ∀ h', (h' = h ∨ ∃ id n, e i = .ow id 0 n ∧ h' = h.set id .gone) → WP X C c Q (upd e i (.sl false es)) h') : WP X C c Q e h := by
  rcases ho with ⟨h1, rfl⟩ | ⟨id, h1, h2⟩
  · exact WP.dimSlot i (by rw [h1]; simp [HV.dim, HV.dimLL]) (hw h (.inl rfl))
  · exact WP.freezeRow i h1 h2 hf (hw _ (.inr ⟨id, _, h1, rfl⟩))
end

end Go.HL

/-
  HL, part Zn: drawn regions with a call that hands back a row of its own: it becomes one of the caller's.
-/
namespace Go.HL

/-- A call that hands back a row, which takes the place that is kept for it. -/
def FreshCall (X : PG) (g : FuncId) (args : List HV) (t : TypeId) (es : List (List HV)) : Prop :=
  ∀ (K : KS) (H : Hp) (vs : Array Value) (nid : Nat), RVs K args vs → RH X K H → ¬ K.A nid → H[nid]? = some (.row t es) → CallsIn (F0 none) 0 X.P g vs K.w fun en w' =>
    ∃ v K', en = .returned v ∧ K'.w = w' ∧ Ext K H K' H ∧ RH X K' H ∧ RV K' (.ow nid 0 es.length) v ∧ ∀ id, K'.A id ↔ K.A id ∨ id = nid

theorem FreshCall.of {X : PG} [PG.Flat X] {g : FuncId} {args : List HV} {t : TypeId} {es : List (List HV)} {k0 : Nat} (hsz : szH X.P t = some k0) (hfa : HV.freeL args = true) (hfe : HV.freeLL es = true) (hc : CallsH X g args [] (fun r h' => OwnAt h' r t es)) : FreshCall X g args t es := by
  intro K H vs nid ha hh hn hH
  let K0 : KS := { K with A := fun _ => False }
  have ha0 : RVs K0 args vs := ⟨ha.1, fun i hi hi' => RV.free (K := K) (K' := K0) rfl (fun _ h => h) (ha.2 i hi hi') (freeL_get hfa i hi)⟩
  have hh0 : RH X K0 [] := RH.none (i := X.i) hh rfl (fun _ h => h) (fun _ h => h)
  refine (hc K0 vs ha0 hh0).mono fun en w' hp => ?_
  obtain ⟨v, K1, r, h1, rfl, rfl, x, hh1, hrv, ho⟩ := hp
  have hblock : ∀ b, b < K.w.heap.size → K1.w.heap[b]? = K.w.heap[b]? := fun b hb => x.block b hb (fun _ h => absurd h noLive)
  have hLk : ∀ b, K.L b → K1.L b := fun b hb => x.keep b hb (fun _ h => absurd h noLive)
  have hnlt : nid < H.length := (List.getElem?_eq_some_iff.1 hH).1
  -- where the row lies
  obtain ⟨B, c, k, hro, hv, hbig⟩ : ∃ B c k, (∀ K' : KS, K'.w = K1.w → (∀ b, K'.L b → K1.L b) → K'.b nid = B → K'.c nid = c → K'.k nid = k → RO X.P K' nid (.row t es)) ∧
      (∀ K' : KS, K'.A nid → K'.b nid = B → K'.c nid = c → K'.k nid = k → RV K' (.ow nid 0 es.length) v) ∧ (c ≠ 0 → K1.L B ∧ K.w.heap.size ≤ B) := by
    rcases ho with ⟨rfl, rfl⟩ | ⟨j, rfl, hj⟩
    · refine ⟨0, 0, k0, fun K' _ _ _ hc hk => ⟨by rw [hk]; exact hsz, fun _ => rfl, fun h => absurd hc h⟩, fun K' hA _ hc _ => ?_, fun h => absurd rfl h⟩
      cases hrv with
      | sl0 _ a cap q1 q2 q3 =>
        have := q2 rfl
        subst this
        exact .ow0 nid a hA hc
      | sl _ _ _ _ _ _ _ q0 => simp at q0
    · have hA1 : K1.A j := by
        generalize es.length = n at hrv
        cases hrv <;> assumption
      obtain ⟨o1, o2, o3⟩ := hh1.obj j _ hA1 hj
      refine ⟨K1.b j, K1.c j, K1.k j, fun K' hw hL hb hc hk => ⟨by rw [hk]; exact o1, fun h => o2 (by rw [← hc]; exact h), fun h => ?_⟩, fun K' hA hb hc hk => ?_, fun h => ?_⟩
      · obtain ⟨cur, p1, p2, p3, p4, p5, p6, p7⟩ := o3 (by rw [← hc]; exact h)
        refine ⟨cur, by rw [hw, hb]; exact p1, by rw [hc, hk]; exact p2, by rw [hc]; exact p3, by rw [hc]; exact p4, by rw [hk]; exact p5, p6, fun i hi m hm => ?_⟩
        obtain ⟨u, u1, u2⟩ := p7 i hi m hm
        exact ⟨u, by rw [hk]; exact u1, u2.free hw hL (freeL_get (freeLL_get hfe i hi) m hm)⟩
      · generalize hlen : es.length = n at hrv ⊢
        cases hrv with
        | ow _ _ _ q1 q2 q3 q4 =>
          rw [← hb, ← hc, ← hk]
          exact .ow nid 0 n hA (by rw [hc]; exact q2) (by rw [hc]; exact q3) (by rw [hc]; exact q4)
        | ow0 _ a q1 q2 => exact .ow0 nid a hA (by rw [hc]; exact q2)
      · have hl : liveAt K1 h1 j := ⟨hA1, ⟨_, hj, rfl⟩, h⟩
        refine ⟨hh1.live j hl, ?_⟩
        rcases x.new j hl with ⟨_, h, _⟩ | h
        · exact absurd h (by simp [liveAt] at *)
        · exact h
  let K2 : KS := { K1 with A := fun id => K.A id ∨ id = nid, b := fun id => if id = nid then B else K.b id, c := fun id => if id = nid then c else K.c id, k := fun id => if id = nid then k else K.k id }
  have hold : ∀ id, K.A id → K2.b id = K.b id ∧ K2.c id = K.c id ∧ K2.k id = K.k id := fun id hA => by
    have hne : id ≠ nid := fun e => hn (e ▸ hA)
    exact ⟨if_neg hne, if_neg hne, if_neg hne⟩
  have hle : K.le K2 := ⟨x.size, fun b hb _ => hblock b hb, fun b hb => x.L b hb, fun i hA => ⟨.inl hA, hold i hA⟩⟩
  have hsame : K2.b nid = B ∧ K2.c nid = c ∧ K2.k nid = k := ⟨if_pos rfl, if_pos rfl, if_pos rfl⟩
  have hlv : ∀ id, K.A id → liveAt K2 H id → liveAt K H id := fun id hA ⟨_, ho, hc⟩ => ⟨hA, ho, by rw [← (hold id hA).2.1]; exact hc⟩
  have hlow : ∀ id, K.A id → liveAt K2 H id → K2.b id < K.w.heap.size := fun id hA hl => by
    rw [(hold id hA).1]; exact hh.Lb _ (hh.live id (hlv id hA hl))
  have hnb : ∀ id, id = nid → liveAt K2 H id → K.w.heap.size ≤ K2.b id ∧ K1.L (K2.b id) := fun id e hl => by
    subst e
    have := hbig (by rw [← hsame.2.1]; exact hl.2.2)
    rw [hsame.1]
    exact ⟨this.2, this.1⟩
  refine ⟨v, K2, rfl, rfl, ⟨x.os, x.tape, x.output, x.size, fun b hb _ => hblock b hb, fun id hl => ?_, fun b hb => x.L b hb, fun b hb _ => hLk b hb, fun i hA => ⟨.inl hA, hold i hA⟩⟩, ⟨fun id hA => ?_, fun id o hA ho => ?_, fun id hl => ?_, fun i j hi hj e => ?_, hh1.Lb, hh.glob.mono hle⟩, hv K2 (.inr rfl) hsame.1 hsame.2.1 hsame.2.2, fun id => Iff.rfl⟩
  · rcases hl.1 with hA | e
    · exact .inl ⟨id, hlv id hA hl, ((hold id hA).1).symm⟩
    · exact .inr (hnb id e hl).1
  · rcases hA with hA | rfl
    · exact hh.A id hA
    · exact hnlt
  · rcases hA with hA | rfl
    · by_cases hl : o.live = true
      · exact (hh.obj id o hA ho).mono hle hA (fun hb _ _ => hblock _ hb)
      · cases o <;> first | trivial | exact absurd rfl hl
    · rw [hH] at ho
      injection ho with ho
      subst ho
      exact hro K2 rfl (fun _ h => h) hsame.1 hsame.2.1 hsame.2.2
  · rcases hl.1 with hA | e
    · rw [(hold id hA).1]; exact hLk _ (hh.live id (hlv id hA hl))
    · exact (hnb id e hl).2
  · rcases hi.1 with hA | e1 <;> rcases hj.1 with hB | e2
    · rw [(hold i hA).1, (hold j hB).1] at e
      exact hh.inj i j (hlv i hA hi) (hlv j hB hj) e
    · have := hlow i hA hi; have := (hnb j e2 hj).1; omega
    · have := hlow j hB hj; have := (hnb i e1 hi).1; omega
    · rw [e1, e2]

/-- One operation of a region that draws its order. -/
def stepF (X : PG) (own : Bool) (e : Env) (R : Hp) (nid : Nat) (k : ER → Prop) (o : Op) : Prop :=
  match o with
  | .call c =>
    match c.callee with
    | .value f =>
      match ev X e f with
      | .fn (.func g) fs cs => entersH X.P g = true ∧ ((∃ x ws, (∀ h', hle R h' → CallsH X g (fs ++ c.args.toList.map (ev X e) ++ cs) h' (fun r h'' => r = x ∧ h'' = setAll h' ws)) ∧ k { x := x, ws := ws }) ∨
        ∃ t es, FreshCall X g (fs ++ c.args.toList.map (ev X e) ++ cs) t es ∧ k { x := .ow nid 0 es.length, ns := [.row t es] })
      | _ => False
    | _ => match opE X own (ev X e) R nid (.call c) with | some r => k r | none => False
  | o => match opE X own (ev X e) R nid o with | some r => k r | none => False


/-- The operations of a region that draws its order, in the order of the text. -/
def opsF (X : PG) (C : Cx) (ops : Array Oper) (A W : List (List Nat)) (Q : Env → Hp → Prop) : List Oper → Nat → List (List Nat) → Env → Hp → Prop
  | [], _, _, e, h => Q e h
  | o :: rest, i, nw, e, h =>
    match wantH e ops o with
    | some true =>
      stepF X (C.own.contains o.pos) e (mask (dmask (unordAt A ops.size i) i W nw) h) h.length (fun r =>
        (r.ws.all fun w => (W.getD i []).contains w.1 && liveB (mask (dmask (unordAt A ops.size i) i W nw) h) w.1) = true ∧
        opsF X C ops A W Q rest (i + 1) (nw ++ [newIds h.length r]) (putE C.N e o.dst r.x) (setAll (h ++ r.ns) r.ws)) o.op
    | some false => opsF X C ops A W Q rest (i + 1) (nw ++ [[]]) (putE C.N e o.dst (.tup [])) h
    | none => False

/-- What one operation says, told without the continuation. -/
def EffF (X : PG) (own : Bool) (e : Env) (R : Hp) (nid : Nat) (o : Op) (r : ER) : Prop :=
  opE X own (ev X e) R nid o = some r ∨
  (∃ c f g fs cs, o = .call c ∧ c.callee = .value f ∧ ev X e f = .fn (.func g) fs cs ∧ entersH X.P g = true ∧ r.ns = [] ∧
    ∀ h', hle R h' → CallsH X g (fs ++ c.args.toList.map (ev X e) ++ cs) h' (fun r' h'' => r' = r.x ∧ h'' = setAll h' r.ws)) ∨
  ∃ c f g fs cs t es, o = .call c ∧ c.callee = .value f ∧ ev X e f = .fn (.func g) fs cs ∧ entersH X.P g = true ∧ r.ws = [] ∧ r.ns = [.row t es] ∧ r.x = .ow nid 0 es.length ∧ FreshCall X g (fs ++ c.args.toList.map (ev X e) ++ cs) t es


section
variable {X : PG}

theorem stepF_eff {own : Bool} {e : Env} {R : Hp} {nid : Nat} {k : ER → Prop} {o : Op} (h : stepF X own e R nid k o) : ∃ r, EffF X own e R nid o r ∧ k r := by
  have eff : ∀ op, (match opE X own (ev X e) R nid op with | some r => k r | none => False) → ∃ r, EffF X own e R nid op r ∧ k r := fun op hm => by
    split at hm
    · rename_i r hr; exact ⟨r, .inl hr, hm⟩
    · exact hm.elim
  cases o with
  | call c =>
    simp only [stepF] at h
    cases hc : c.callee with
    | value f =>
      rw [hc] at h
      simp only at h
      split at h
      · rename_i g fs cs hf
        rcases h with ⟨h1, ⟨x, ws, h2, h3⟩ | ⟨t, es, h2, h3⟩⟩
        · exact ⟨_, .inr (.inl ⟨c, f, g, fs, cs, rfl, hc, hf, h1, rfl, h2⟩), h3⟩
        · exact ⟨_, .inr (.inr ⟨c, f, g, fs, cs, t, es, rfl, hc, hf, h1, rfl, rfl, rfl, h2⟩), h3⟩
      · exact h.elim
    | builtin b => rw [hc] at h; exact eff _ h
    | invoke r n => rw [hc] at h; exact eff _ h
  | _ => exact eff _ h

end

section
variable {X : PG} {C : Cx} {ops : Array Oper} {A W : List (List Nat)} {e0 : Env} {h0 : Hp}

/-- What the plan says of its i-th operation. -/
def ValidF (X : PG) (C : Cx) (ops : Array Oper) (A W : List (List Nat)) (e0 : Env) (h0 : Hp) (r : Nat → ER) (i : Nat) : Prop :=
  ∃ o, ops[i]? = some o ∧ ((wantH (envT C.N ops e0 r i) ops o = some false ∧ r i = { x := .tup [] }) ∨
    (wantH (envT C.N ops e0 r i) ops o = some true ∧ EffF X (C.own.contains o.pos) (envT C.N ops e0 r i) (mask (maskAt ops A W h0 r i) (hpT h0 r i)) (hpT h0 r i).length o.op (r i) ∧
      ∀ w ∈ (r i).ws, (W.getD i []).contains w.1 = true ∧ liveB (mask (maskAt ops A W h0 r i) (hpT h0 r i)) w.1 = true))

theorem ValidF.agree {r r' : Nat → ER} {i : Nat} (h : ∀ j, j ≤ i → r j = r' j) (hv : ValidF X C ops A W e0 h0 r i) : ValidF X C ops A W e0 h0 r' i := by
  have hlt : ∀ j, j < i → r j = r' j := fun j hj => h j (by omega)
  unfold ValidF maskAt at hv ⊢
  rw [← envT_agree i hlt, ← hpT_agree i hlt, ← nwT_agree i hlt, ← h i (Nat.le_refl _)]
  exact hv

theorem opsF_plan {Q : Env → Hp → Prop} : ∀ (rest : List Oper) (i : Nat) (r0 : Nat → ER), ops.toList.drop i = rest → i ≤ ops.size → (∀ j, j < i → ValidF X C ops A W e0 h0 r0 j) →
    opsF X C ops A W Q rest i (nwT h0 r0 i) (envT C.N ops e0 r0 i) (hpT h0 r0 i) → ∃ r, (∀ j, j < ops.size → ValidF X C ops A W e0 h0 r j) ∧ Q (envT C.N ops e0 r ops.size) (hpT h0 r ops.size) := by
  intro rest
  induction rest with
  | nil =>
    intro i r0 hd hi hv hq
    have : i = ops.size := by
      have := congrArg List.length hd
      simp at this
      omega
    subst this
    exact ⟨r0, hv, hq⟩
  | cons o rest ih =>
    intro i r0 hd hi hv hq
    have hlt : i < ops.size := by
      have := congrArg List.length hd
      simp at this
      omega
    have hget : ops[i]? = some o := by
      have := congrArg (·[0]?) hd
      simpa using this
    have hrest : ops.toList.drop (i + 1) = rest := by
      have := congrArg (List.drop 1) hd
      simpa [List.drop_drop] using this
    have step : ∀ (ri : ER), ValidF X C ops A W e0 h0 (fun j => if j = i then ri else r0 j) i → opsF X C ops A W Q rest (i + 1) (nwT h0 r0 i ++ [newIds (hpT h0 r0 i).length ri]) (putE C.N (envT C.N ops e0 r0 i) o.dst ri.x) (setAll (hpT h0 r0 i ++ ri.ns) ri.ws) →
        ∃ r, (∀ j, j < ops.size → ValidF X C ops A W e0 h0 r j) ∧ Q (envT C.N ops e0 r ops.size) (hpT h0 r ops.size) := fun ri hvi hop => by
      have agr : ∀ j, j < i → (fun j => if j = i then ri else r0 j) j = r0 j := fun j hj => if_neg (by omega)
      refine ih (i + 1) (fun j => if j = i then ri else r0 j) hrest hlt (fun j hj => ?_) ?_
      · by_cases hji : j = i
        · subst hji; exact hvi
        · exact (hv j (by omega)).agree (fun k hk => (agr k (by omega)).symm)
      · have e1 : nwT h0 (fun j => if j = i then ri else r0 j) (i + 1) = nwT h0 r0 i ++ [newIds (hpT h0 r0 i).length ri] := by
          rw [← nwT_agree (r := fun j => if j = i then ri else r0 j) i agr, ← hpT_agree (r := fun j => if j = i then ri else r0 j) i agr]
          simp [nwT, List.range_succ]
        have e2 : envT C.N ops e0 (fun j => if j = i then ri else r0 j) (i + 1) = putE C.N (envT C.N ops e0 r0 i) o.dst ri.x := by
          rw [← envT_agree (r := fun j => if j = i then ri else r0 j) i agr]
          simp [envT, envF, hget]
        have e3 : hpT h0 (fun j => if j = i then ri else r0 j) (i + 1) = setAll (hpT h0 r0 i ++ ri.ns) ri.ws := by
          rw [← hpT_agree (r := fun j => if j = i then ri else r0 j) i agr]
          simp [hpT]
        rw [e1, e2, e3]
        exact hop
    have agr : ∀ (ri : ER) j, j < i → (fun j => if j = i then ri else r0 j) j = r0 j := fun ri j hj => if_neg (by omega)
    simp only [opsF] at hq
    split at hq
    · rename_i hw
      obtain ⟨ri, h1, h2, h3⟩ := stepF_eff hq
      refine step ri ⟨o, hget, .inr ?_⟩ h3
      unfold maskAt
      rw [envT_agree i (agr ri), hpT_agree i (agr ri), nwT_agree i (agr ri)]
      simp only [if_true]
      refine ⟨hw, h1, fun w hwm => ?_⟩
      have := List.all_eq_true.1 h2 w hwm
      simpa only [Bool.and_eq_true] using this
    · rename_i hw
      refine step { x := .tup [] } ⟨o, hget, .inl ?_⟩ ?_
      · rw [envT_agree i (agr _)]
        exact ⟨hw, by simp⟩
      · simpa [newIds, setAll] using hq
    · exact hq.elim

end

section
variable {X : PG} {C : Cx} {ops : Array Oper} {A W : List (List Nat)} {e0 : Env} {h0 : Hp} {r : Nat → ER}
variable (hv : ∀ i, i < ops.size → ValidF X C ops A W e0 h0 r i)
include hv

theorem live_atF {i id : Nat} (hi : i < ops.size) (hw : wrote r i id) : (W.getD i []).contains id = true ∧ id < (allT h0 r i).length ∧ ¬ id ∈ maskAt ops A W h0 r i := by
  obtain ⟨o, _, h | ⟨_, _, h⟩⟩ := hv i hi
  · unfold wrote at hw; rw [h.2] at hw; simp at hw
  · unfold wrote at hw
    obtain ⟨w, hwm, rfl⟩ := List.mem_map.1 hw
    obtain ⟨h1, h2⟩ := h w hwm
    obtain ⟨o', h3, h4⟩ := liveB_get h2
    obtain ⟨h5, h6⟩ := mask_get h3 h4
    exact ⟨h1, by rw [← hpT_length]; exact (List.getElem?_eq_some_iff.1 h5).1, h6⟩

theorem disjF {i j id : Nat} (hi : i < ops.size) (hj : j ∈ unordAt A ops.size i) (hw : wrote r i id) : ¬ touches h0 r j id := by
  intro ht
  obtain ⟨hjn, hne⟩ := unord_lt hj
  obtain ⟨_, h2, h3⟩ := live_atF hv hi hw
  rcases Nat.lt_or_gt_of_ne hne with hlt | hgt
  · exact h3 (masked hj hlt ht)
  · rcases ht with hwj | ⟨h4, _⟩
    · exact (live_atF hv hjn hwj).2.2 (masked (unord_symm hi hj) hgt (.inl hw))
    · have := (allT_mono (h0 := h0) (r := r) j (by omega : i ≤ j)).1
      omega

theorem js_stepF (hok : okD ops A = true) {K0 : KS} {B : Nat} {S : Nat → Bool} {a : Act} {w : World} {i : Nat} {ro : Option Nat} {Qx : Exit → Act → World → Prop} (hh0 : RH X K0 h0) (hJ : JS X C ops e0 h0 r K0 B S a w) (hc : closed ops S) (hi : i < ops.size) (hS : S i = false) (hp : ∀ p ∈ predsA ops i, S p = true) :
    wpOpIn (F0 ro) 0 X.P ops Qx i (fun a' w' => JS X C ops e0 h0 r K0 B (fun j => S j || j == i) a' w') a w := by
  obtain ⟨K, rfl, x, he, hh, hA⟩ := hJ
  obtain ⟨o, ho, hval⟩ := hv i hi
  have hcomp := fun {j} hj hne hu => comp (j := j) hok hc hi hS hp hj hne hu
  obtain ⟨_, _, hun⟩ := okD_at hok hi
  have wr : ∀ j, j < ops.size → ∀ id, wrote r j id → id < (allT h0 r j).length := fun j hj id hw => (live_atF hv hj hw).2.1
  -- the temporaries that are looked at
  have henv : ∀ t ∈ o.looksAt ops, envF C.N ops e0 r S ops.size t = envT C.N ops e0 r i t := fun t ht => by
    rw [← envF_lt (Nat.le_of_lt hi)]
    refine envF_congr _ fun j hj hd => ?_
    by_cases hji : j = i
    · subst hji; simp [hS]
    · by_cases hu : j ∈ unordAt A ops.size i
      · unfold dstAt at hd
        cases hoj : ops[j]? with
        | none => rw [hoj] at hd; cases hd
        | some b =>
          rw [hoj] at hd
          exact absurd ht (hun j hu o b t ho hoj hd).1
      · exact hcomp hj hji hu
  have hwant : wantH (envF C.N ops e0 r S ops.size) ops o = wantH (envT C.N ops e0 r i) ops o := by
    unfold wantH
    cases hg : o.guard with
    | none => rfl
    | some g =>
      obtain ⟨j, want⟩ := g
      simp only
      cases ht : (ops[j]?).bind (·.dst) with
      | none => rfl
      | some t => simp only; rw [henv t (looks_guard hg ht)]
  have hev : ∀ y ∈ o.op.operands, ev X (envT C.N ops e0 r i) y = ev X (envF C.N ops e0 r S ops.size) y := fun y hy => by
    cases y with
    | tmp t => exact (henv t (looks_oper hy)).symm
    | _ => rfl
  -- the environment behind
  have henv' : envF C.N ops e0 r (fun j => S j || j == i) ops.size = putE C.N (envF C.N ops e0 r S ops.size) o.dst (r i).x := by
    funext t
    by_cases hd : o.dst = some t
    · have e1 : envF C.N ops e0 r (fun j => S j || j == i) ops.size t = envF C.N ops e0 r (fun j => S j || j == i) (i + 1) t := by
        refine envF_later _ (by omega) fun j h1 h2 hdj => ?_
        have hji : j ≠ i := by omega
        have : S j = false := by
          by_cases hu : j ∈ unordAt A ops.size i
          · unfold dstAt at hdj
            cases hoj : ops[j]? with
            | none => rw [hoj] at hdj; cases hdj
            | some b =>
              rw [hoj] at hdj
              exact absurd hd (hun j hu o b t ho hoj hdj).2
          · rw [hcomp h2 hji hu]; simp; omega
        simp [this, hji]
      rw [e1]
      simp [envF, ho, hd, putE, upd]
    · have e1 : putE C.N (envF C.N ops e0 r S ops.size) o.dst (r i).x t = envF C.N ops e0 r S ops.size t := by
        cases hdd : o.dst with
        | none => rfl
        | some d => simp only [putE]; exact upd_ne _ _ _ _ (fun q => hd (by rw [hdd, q]))
      rw [e1]
      refine envF_congr _ fun j hj hdj => ?_
      have hji : j ≠ i := fun e => by subst e; simp [dstAt, ho, hd] at hdj
      simp [hji]
  -- the heap behind
  have hheap' : setAll (hpF r (allT h0 r ops.size) S ops.size) (r i).ws = hpF r (allT h0 r ops.size) (fun j => S j || j == i) ops.size := by
    apply List.ext_getElem?
    intro id
    by_cases hw : wrote r i id
    · have later : ∀ j, i + 1 ≤ j → j < ops.size → wrote r j id → S j = false := fun j h1 h2 hwj => by
        by_cases hu : j ∈ unordAt A ops.size i
        · exact absurd (.inl hwj) (disjF hv hi hu hw)
        · rw [hcomp h2 (by omega) hu]; simp; omega
      rw [hpF_later ops.size (by omega : i + 1 ≤ ops.size) (fun j h1 h2 hwj => by simp [later j h1 h2 hwj]; omega)]
      simp only [hpF, beq_self_eq_true, Bool.or_true, if_true]
      refine setAll_congr _ _ _ _ ?_
      rw [hpF_later ops.size (by omega : i ≤ ops.size) (fun j h1 h2 hwj => by
        by_cases hji : j = i
        · subst hji; exact hS
        · exact later j (by omega) h2 hwj)]
      exact hpF_congr i (fun j hj _ => by have : j ≠ i := by omega
                                          simp [this])
    · rw [setAll_ne _ _ _ hw]
      refine hpF_congr _ fun j hj hwj => ?_
      have hji : j ≠ i := fun e => hw (e ▸ hwj)
      simp [hji]
  have hAn : ∀ id, (K.A id ∨ ((allT h0 r i).length ≤ id ∧ id < (allT h0 r i).length + (r i).ns.length)) ↔ (K0.A id ∨ ∃ j, j < ops.size ∧ (S j || j == i) = true ∧ (allT h0 r j).length ≤ id ∧ id < (allT h0 r j).length + (r j).ns.length) := fun id => by
    rw [hA]
    constructor
    · rintro ((h | ⟨j, h1, h2, h3⟩) | h)
      · exact .inl h
      · exact .inr ⟨j, h1, by simp [h2], h3⟩
      · exact .inr ⟨i, hi, by simp, h⟩
    · rintro (h | ⟨j, h1, h2, h3⟩)
      · exact .inl (.inl h)
      · by_cases hji : j = i
        · subst hji; exact .inr h3
        · exact .inl (.inr ⟨j, h1, by simpa [hji] using h2, h3⟩)
  have finish : ∀ (K' : KS) v, Ext K (hpF r (allT h0 r ops.size) S ops.size) K' (setAll (hpF r (allT h0 r ops.size) S ops.size) (r i).ws) → RH X K' (setAll (hpF r (allT h0 r ops.size) S ops.size) (r i).ws) → RV K' (r i).x v →
      (∀ id, K'.A id ↔ K.A id ∨ ((allT h0 r i).length ≤ id ∧ id < (allT h0 r i).length + (r i).ns.length)) → JS X C ops e0 h0 r K0 B (fun j => S j || j == i) (a.put o.dst v) K'.w := fun K' v x1 hh1 hrv hA1 => by
    refine ⟨K', rfl, ?_, ?_, ?_, fun id => (hA1 id).trans (hAn id)⟩
    · rw [← hheap']; exact x.trans x1 hh0
    · rw [henv']; exact (he.ext x1 hh).put o.dst hrv
    · rw [← hheap']; exact hh1
  unfold wpOpIn
  simp only [ho]
  rcases hval with ⟨hw, hr⟩ | ⟨hw, heff, hlive⟩
  · rw [wantH_sound he (hwant.trans hw), if_neg (by simp)]
    refine ⟨fun _ _ => trivial, ?_⟩
    refine finish K undef ?_ ?_ ?_ (fun id => ?_)
    · rw [hr]; exact .refl _ _
    · rw [hr]; exact hh
    · rw [hr]; exact .tup [] #[] rfl (fun i hi => absurd hi (Nat.not_lt_zero _))
    · rw [hr]; simp; omega
  · rw [wantH_sound he (hwant.trans hw), if_pos rfl]
    have hR : hle (mask (maskAt ops A W h0 r i) (hpT h0 r i)) (hpF r (allT h0 r ops.size) S ops.size) := fun id ob hl hob => by
      obtain ⟨h1, h2⟩ := mask_get hob hl
      have hid : id < (allT h0 r i).length := by rw [← hpT_length]; exact (List.getElem?_eq_some_iff.1 h1).1
      rw [hpT_get wr i (Nat.le_of_lt hi) id hid, ← hpF_lt (Nat.le_of_lt hi)] at h1
      rw [← h1]
      refine hpF_congr _ fun j hj hwj => ?_
      by_cases hji : j = i
      · subst hji; simp [hS]
      · by_cases hu : j ∈ unordAt A ops.size i
        · exfalso
          rcases Nat.lt_or_gt_of_ne hji with hlt | hgt
          · exact h2 (masked hu hlt (.inl hwj))
          · refine h2 ?_
            unfold maskAt dmask
            rw [List.mem_flatMap]
            refine ⟨j, hu, ?_⟩
            rw [if_neg (by omega)]
            simpa using (live_atF hv hj hwj).1
        · exact hcomp hj hji hu
    have hnew : ∀ k (hk : k < (r i).ns.length), (hpF r (allT h0 r ops.size) S ops.size)[(allT h0 r i).length + k]? = some ((r i).ns[k]) := fun k hk => by
        rw [hpF_later ops.size (Nat.zero_le _) (fun j _ hj hwj => ?_)]
        · exact allT_new hi k hk
        · by_cases hji : j = i
          · subst hji; exact hS
          · have hlj := wr j hj _ hwj
            have hij : i < j := by
              rcases Nat.lt_or_gt_of_ne hji with hlt | hgt
              · have := (allT_mono (h0 := h0) (r := r) i (by omega : j ≤ i)).1
                omega
              · exact hgt
            by_cases hu : j ∈ unordAt A ops.size i
            · exact absurd (.inr ⟨by omega, by omega⟩) (disjF hv hj (unord_symm hi hu) hwj)
            · rw [hcomp hj hji hu]; simp; omega
    have hnot : ∀ k, k < (r i).ns.length → ¬ K.A ((allT h0 r i).length + k) := fun k hk hAk => by
        rw [hA] at hAk
        rcases hAk with hAk | ⟨j, h1, h2, h3, h4⟩
        · have e1 := hh0.A _ hAk
          have e2 := (allT_mono (h0 := h0) (r := r) i (Nat.zero_le i)).1
          simp only [allT] at e2
          omega
        · have hji : j ≠ i := fun e => by subst e; rw [hS] at h2; cases h2
          rcases Nat.lt_or_gt_of_ne hji with hlt | hgt
          · have := (allT_mono (h0 := h0) (r := r) i (by omega : j + 1 ≤ i)).1
            simp only [allT, List.length_append] at this
            omega
          · have := (allT_mono (h0 := h0) (r := r) j (by omega : i + 1 ≤ j)).1
            simp only [allT, List.length_append] at this
            omega
    rcases heff with heff | ⟨c, f, g, fs, cs, hop, hcal, hf, hen, hns, hcall⟩ | ⟨c, f, g, fs, cs, t, es, hop, hcal, hf, hen, hws, hns, hrx, hcall⟩
    · rw [opE_congr hev] at heff
      have hd : ∀ c, o.op ≠ .defer c := fun c hc' => by rw [hc'] at heff; simp [opE, opV] at heff
      have hrun := opE_sound (f := hpF r (allT h0 r ops.size) S ops.size) hh hh (fun _ _ _ _ h => h) (fun _ => rfl) (fun y => he.eval hh y) (opE_mono hR heff) (fun k hk => by rw [hpT_length]; exact hnew k hk) (fun k hk hAk => hnot k hk (by rwa [hpT_length] at hAk))
      obtain ⟨v, K', h1, h2, h3, h4, h5⟩ := hrun
      refine ⟨fun _ _ => trivial, ?_⟩
      rw [Oper.semAt_eq _ _ _ hd]
      rw [hpT_length] at h5
      rcases h1 with h1 | ⟨h1, rfl⟩
      · rw [h1]; exact finish K' v h2 h3 h4 h5
      · rw [h1]; exact finish K' _ h2 h3 h4 h5
    · have hcall' := hcall _ hR
      have hf' : ev X (envF C.N ops e0 r S ops.size) f = .fn (.func g) fs cs := by rw [← hev f (by rw [hop]; simp [Op.operands, Call.operands, hcal])]; exact hf
      have hargs : c.args.toList.map (ev X (envT C.N ops e0 r i)) = c.args.toList.map (ev X (envF C.N ops e0 r S ops.size)) := List.map_congr_left fun y hy => hev y (by rw [hop]; simp [Op.operands, Call.operands]; exact .inr (by simpa using hy))
      rw [hargs] at hcall'
      have hst : stepT X true (envF C.N ops e0 r S ops.size) (hpF r (allT h0 r ops.size) S ops.size) (fun r' h'' => r' = (r i).x ∧ h'' = setAll (hpF r (allT h0 r ops.size) S ops.size) (r i).ws) o.op := by
        rw [hop]
        simp only [stepT, hcal, hf']
        exact ⟨hen, hcall'⟩
      refine stepT_wp he hh hst fun y h'' K' v x1 hh1 hrv hk => ?_
      obtain ⟨rfl, rfl⟩ := hk
      refine finish K' v x1.toExt hh1 hrv fun id => ?_
      rw [hns]
      refine ⟨fun hid => (x1.An id hid).imp_right fun hl => ?_, fun hid => hid.elim (fun h => (x1.A id h).1) (fun h => by simp at h; omega)⟩
      have := hh1.A id hid
      rw [setAll_length] at this
      omega
    · have hf' : ev X (envF C.N ops e0 r S ops.size) f = .fn (.func g) fs cs := by rw [← hev f (by rw [hop]; simp [Op.operands, Call.operands, hcal])]; exact hf
      have hargs : c.args.toList.map (ev X (envT C.N ops e0 r i)) = c.args.toList.map (ev X (envF C.N ops e0 r S ops.size)) := List.map_congr_left fun y hy => hev y (by rw [hop]; simp [Op.operands, Call.operands]; exact .inr (by simpa using hy))
      rw [hargs] at hcall
      refine ⟨fun _ _ => trivial, ?_⟩
      rw [Oper.semAt_eq _ _ _ (fun c hc => by rw [hop] at hc; cases hc)]
      have hr := he.eval hh f
      rw [hf'] at hr
      generalize hv' : a.eval f = v at hr
      cases hr with
      | fn _ _ _ vs us h1 h2 hvs hus =>
        have hexec : (execOp a.eval o).run X.P K.w = .ok (.enter g (vs ++ c.args.map a.eval ++ us)) K.w := by
          unfold execOp
          simp only [hop, resolve, hcal, hv', Deferred.ofValue, Sem.run_bind, Sem.run_pure, Result.andThen_ok, invoke]
          exact entersH_enters hen _ _
        rw [hexec, Oper.uponIn_enter]
        refine ⟨F0_depth, F0_calls ?_⟩
        have hargs : RVs K (fs ++ c.args.toList.map (ev X (envF C.N ops e0 r S ops.size)) ++ cs) (vs ++ c.args.map a.eval ++ us) := by
          refine ⟨by simp [h1, h2], fun i hi hi' => ?_⟩
          simp only [List.getElem_append, Array.getElem_append, List.length_append, Array.size_append, List.length_map, Array.size_map, Array.length_toList, h1]
          split
          · split
            · exact hvs i _
            · simp only [List.getElem_map, Array.getElem_map, Array.getElem_toList]
              exact he.eval hh _
          · exact hus _ _
        have hn0 := hnew 0 (by rw [hns]; simp)
        have hn1 := hnot 0 (by rw [hns]; simp)
        simp only [hns, List.getElem_cons_zero, Nat.add_zero] at hn0 hn1
        refine (hcall K _ _ _ hargs hh hn1 hn0).mono fun en w' hp => ?_
        obtain ⟨v, K', rfl, rfl, q1, q2, q3, q4⟩ := hp
        refine finish K' v ?_ ?_ ?_ fun id => ?_
        · rw [hws]; exact q1
        · rw [hws]; exact q2
        · rw [hrx, hpT_length]; exact q3
        · rw [q4, hns]
          simp only [List.length_cons, List.length_nil]
          constructor
          · rintro (h | rfl)
            · exact .inl h
            · exact .inr ⟨Nat.le_refl _, by omega⟩
          · rintro (h | ⟨h3, h4⟩)
            · exact .inl h
            · exact .inr (by omega)

end

section
variable {X : PG} {C : Cx} {ops : Array Oper} {A W : List (List Nat)}

/-- A region that draws its order. -/
theorem WP.regionF {id : Nat} {Q : Exit → Env → Hp → Prop} {e : Env} {h : Hp} (hm : X.P.follows .mixedOrders = true) (A W : List (List Nat)) (hok : okD ops A = true) (hs : opsF X C ops A W (fun e h => Q .normal e h) ops.toList 0 [] e h) : WP X C (.region id ops true) Q e h := by
  intro K0 B a he hh
  refine wpIn_region_any hm ?_
  obtain ⟨r, hv, hq⟩ := opsF_plan (e0 := e) (h0 := h) ops.toList 0 (fun _ => { x := .und }) rfl (Nat.zero_le _) (fun j hj => absurd hj (Nat.not_lt_zero _)) hs
  have wr : ∀ j, j < ops.size → ∀ id, wrote r j id → id < (allT h r j).length := fun j hj id hw => (live_atF hv hj hw).2.1
  have key : ∀ (fuel : Nat) (listed : Array Bool) (a : Act) (w : World), listed.size = ops.size → JS X C ops e h r K0 B (fun j => listed.getD j false) a w → closed ops (fun j => listed.getD j false) →
      (List.range ops.size).countP (fun j => !listed.getD j false) ≤ fuel → wpAnyIn (F0 C.ro) 0 X.P .any ops (Post X K0 h B C.N Q) fuel listed a w := by
    intro fuel
    have done : ∀ (listed : Array Bool) (a : Act) (w : World), (∀ i, i < ops.size → listed.getD i false = true) → JS X C ops e h r K0 B (fun j => listed.getD j false) a w → Post X K0 h B C.N Q .normal a w := fun listed a w hall hJ => by
      obtain ⟨K, rfl, x, hre, hrh, hA⟩ := hJ
      have e1 : envF C.N ops e r (fun j => listed.getD j false) ops.size = envT C.N ops e r ops.size := by
        funext t; exact envF_congr _ fun j hj _ => hall j hj
      have e2 : hpF r (allT h r ops.size) (fun j => listed.getD j false) ops.size = hpT h r ops.size := by
        apply List.ext_getElem?
        intro id
        rw [hpF_congr (S' := fun _ => true) _ fun j hj _ => hall j hj]
        by_cases hid : id < (allT h r ops.size).length
        · exact (hpT_get wr _ (Nat.le_refl _) id hid).symm
        · rw [List.getElem?_eq_none (by rw [hpF_length]; omega), List.getElem?_eq_none (by rw [hpT_length]; omega)]
      rw [e1] at hre
      rw [e2] at x hrh
      refine ⟨K, _, _, rfl, ⟨x, ?_, fun i hi => ?_⟩, hre, hrh, hq⟩
      · rw [hpT_length]; exact (allT_mono (h0 := h) (r := r) ops.size (Nat.zero_le _)).1
      · rcases (hA i).1 hi with h1 | ⟨j, _, _, h2, _⟩
        · exact .inl h1
        · have := (allT_mono (h0 := h) (r := r) j (Nat.zero_le _)).1
          exact .inr (Nat.le_trans this h2)
    induction fuel with
    | zero =>
      intro listed a w hsz hJ hc hcount
      have hall : ∀ i, i < ops.size → listed.getD i false = true := fun i hi => by
        have h0 : (List.range ops.size).countP (fun j => !listed.getD j false) = 0 := by omega
        rw [List.countP_eq_zero] at h0
        have := h0 i (by simpa using hi)
        simpa using this
      refine ⟨?_, done listed a w hall hJ⟩
      rw [List.eq_nil_iff_forall_not_mem]
      intro i hi
      obtain ⟨h1, h2, _⟩ := ready_mem.1 hi
      have h3 := hall i h1
      rw [Array.getD_eq_getD_getElem?, Array.getElem?_eq_getElem (by omega)] at h2 h3
      simp at h2 h3
      rw [h2] at h3; cases h3
    | succ fuel ih =>
      intro listed a w hsz hJ hc hcount
      refine ⟨fun hr => done listed a w (all_listed hok hsz hr) hJ, fun i hi => ?_⟩
      obtain ⟨h1, h2, h3⟩ := ready_mem.1 hi
      have hS : listed.getD i false = false := by
        rw [Array.getD_eq_getD_getElem?, Array.getElem?_eq_getElem (by omega)] at h2 ⊢
        simpa using h2
      have hset : ∀ j, (listed.setIfInBounds i true).getD j false = (listed.getD j false || j == i) := fun j => by
        simp only [Array.getD_eq_getD_getElem?, Array.getElem?_setIfInBounds]
        by_cases hji : i = j
        · subst hji; simp [hsz, h1]
        · have : (j == i) = false := by simp; omega
          simp [hji, this]
      refine wpOpIn_mono (fun a' w' hJ' => ih _ a' w' (by simpa using hsz) ?_ ?_ ?_) (js_stepF hv hok hh hJ hc h1 hS h3)
      · rw [show (fun j => (listed.setIfInBounds i true).getD j false) = (fun j => listed.getD j false || j == i) from funext hset]
        exact hJ'
      · intro j hj hSj p hp
        simp only [hset] at hSj ⊢
        simp only [Bool.or_eq_true, beq_iff_eq] at hSj ⊢
        rcases hSj with hSj | rfl
        · exact .inl (hc j hj hSj p hp)
        · exact .inl (h3 p hp)
      · have := countP_less (fun j => !listed.getD j false) (fun j => !(listed.setIfInBounds i true).getD j false) i (by rw [hS]; rfl) (by rw [hset]; simp) (List.range ops.size) (fun j hj => by rw [hset] at hj; simp at hj ⊢; exact hj.1) (by simpa using h1)
        omega
  obtain ⟨d1, d2⟩ := hh.drew
  obtain ⟨ns, hns⟩ := allT_append (h0 := h) (r := r) ops.size
  have hnone : ∀ j, (Array.replicate ops.size false).getD j false = false := fun j => by
    rw [Array.getD_eq_getD_getElem?, Array.getElem?_replicate]
    split <;> rfl
  refine key ops.size (Array.replicate ops.size false) a _ (by simp) ⟨{ K0 with w := K0.w.drew }, rfl, ?_, ?_, ?_, fun id => ?_⟩ ?_ (Nat.le_trans List.countP_le_length (by simp))
  · have e2 : hpF r (allT h r ops.size) (fun j => (Array.replicate ops.size false).getD j false) ops.size = allT h r ops.size := by
      apply List.ext_getElem?
      intro id
      rw [hpF_later _ (Nat.zero_le _) (fun j _ _ _ => hnone j)]
      rfl
    rw [e2, hns]
    exact d1.padR d2 ns
  · have e1 : envF C.N ops e r (fun j => (Array.replicate ops.size false).getD j false) ops.size = e := by
      funext t
      rw [envF_later _ (Nat.zero_le _) (fun j _ _ _ => hnone j)]
      rfl
    rw [e1]
    exact he.ext d1 hh
  · have e2 : hpF r (allT h r ops.size) (fun j => (Array.replicate ops.size false).getD j false) ops.size = allT h r ops.size := by
      apply List.ext_getElem?
      intro id
      rw [hpF_later _ (Nat.zero_le _) (fun j _ _ _ => hnone j)]
      rfl
    rw [e2, hns]
    exact d2.pad ns
  · simp only [hnone]
    simp
  · intro j _ hS
    simp only [hnone] at hS
    cases hS

end

section
variable {X : PG} {C : Cx} {ops : Array Oper} {A W : List (List Nat)} {Q : Env → Hp → Prop} {e : Env} {h : Hp}

theorem stepF_of {own : Bool} {nid : Nat} {k : ER → Prop} {o : Op} {r : ER} (hr : opE X own (ev X e) h nid o = some r) (hk : k r) : stepF X own e h nid k o := by
  cases o with
  | call c =>
    simp only [stepF]
    cases hc : c.callee with
    | value f =>
      obtain ⟨callee, args, argTypes⟩ := c
      simp only at hc
      subst hc
      simp [opE, opV] at hr
    | builtin b => simp only [hr]; exact hk
    | invoke x n => simp only [hr]; exact hk
  | _ => simp only [stepF, hr]; exact hk

theorem opsF_dry : ∀ (l rest : List Oper) (e : Env) (i : Nat) (nw : List (List Nat)) {e' : Env} {h' : Hp}, (l.all fun o => Op.dry (C.own.contains o.pos) o.op) = true → evalS X C ops l (some (e, h)) = some (e', h') →
    opsF X C ops A W Q rest (i + l.length) (nw ++ List.replicate l.length []) e' h → opsF X C ops A W Q (l ++ rest) i nw e h
  | [], rest, e, i, nw, e', h', _, he, hk => by
    simp only [evalS, Option.some.injEq, Prod.mk.injEq] at he
    obtain ⟨rfl, rfl⟩ := he
    simpa using hk
  | o :: l, rest, e, i, nw, e', h', hp, he, hk => by
    simp only [List.all_cons, Bool.and_eq_true] at hp
    rw [evalS] at he
    simp only [List.cons_append, opsF]
    have hnw : ∀ {e1 : Env}, evalS X C ops l (some (e1, h)) = some (e', h') → opsF X C ops A W Q (l ++ rest) (i + 1) (nw ++ [[]]) e1 h := fun {e1} he1 => by
      refine opsF_dry l rest e1 (i + 1) (nw ++ [[]]) hp.2 he1 ?_
      rw [List.append_assoc]
      simp only [List.length_cons, List.replicate_succ] at hk
      rwa [show i + 1 + l.length = i + (l.length + 1) by omega]
    unfold step1 at he
    simp only at he
    split at he
    · rename_i hw
      rw [hw]
      simp only
      cases hr : opE X (C.own.contains o.pos) (ev X e) h h.length o.op with
      | none => rw [hr, Option.map_none, evalS_none] at he; cases he
      | some r =>
        rw [hr, Option.map_some] at he
        obtain ⟨w1, w2⟩ := opE_plain (Op.dry_plain hp.1) hr
        refine stepF_of ((opE_dry hp.1).trans hr) ⟨by rw [w1]; rfl, ?_⟩
        have : newIds h.length r = [] := by simp [newIds, w1, w2]
        rw [this]
        rw [w1, w2] at he ⊢
        simp only [setAll, List.append_nil] at he ⊢
        exact hnw he
    · rename_i hw
      rw [hw]
      exact hnw he
    · rw [evalS_none] at he; cases he


theorem opsF_plain : ∀ (l rest : List Oper) (e : Env) (i : Nat) (nw : List (List Nat)) {e' : Env} {h' : Hp}, (l.all fun o => Op.plain (C.own.contains o.pos) o.op) = true → (∀ x ∈ nw, x = []) → evalS X C ops l (some (e, h)) = some (e', h') →
    (∀ nw' : List (List Nat), (∀ x ∈ nw', x = []) → opsF X C ops A [] Q rest (i + l.length) nw' e' h) → opsF X C ops A [] Q (l ++ rest) i nw e h
  | [], rest, e, i, nw, e', h', _, hn, he, hk => by
    simp only [evalS, Option.some.injEq, Prod.mk.injEq] at he
    obtain ⟨rfl, rfl⟩ := he
    exact hk nw hn
  | o :: l, rest, e, i, nw, e', h', hp, hn, he, hk => by
    simp only [List.all_cons, Bool.and_eq_true] at hp
    rw [evalS] at he
    simp only [List.cons_append, opsF]
    rw [dmask_nil hn, mask_nil]
    have hn' : ∀ x ∈ nw ++ [[]], x = [] := fun x hx => by
      rcases List.mem_append.1 hx with hx | hx
      · exact hn x hx
      · simpa using hx
    have hnw : ∀ {e1 : Env}, evalS X C ops l (some (e1, h)) = some (e', h') → opsF X C ops A [] Q (l ++ rest) (i + 1) (nw ++ [[]]) e1 h := fun {e1} he1 => by
      refine opsF_plain l rest e1 (i + 1) (nw ++ [[]]) hp.2 hn' he1 fun nw' hnw' => ?_
      have := hk nw' hnw'
      rwa [show i + 1 + l.length = i + (o :: l).length by simp; omega]
    unfold step1 at he
    simp only at he
    split at he
    · rename_i hw
      rw [hw]
      simp only
      cases hr : opE X (C.own.contains o.pos) (ev X e) h h.length o.op with
      | none => rw [hr, Option.map_none, evalS_none] at he; cases he
      | some r =>
        rw [hr, Option.map_some] at he
        obtain ⟨w1, w2⟩ := opE_plain hp.1 hr
        refine stepF_of hr ⟨by rw [w1]; rfl, ?_⟩
        have : newIds h.length r = [] := by simp [newIds, w1, w2]
        rw [this]
        rw [w1, w2] at he ⊢
        simp only [setAll, List.append_nil] at he ⊢
        exact hnw he
    · rename_i hw
      rw [hw]
      exact hnw he
    · rw [evalS_none] at he; cases he

/-- A drawn region: operations that write nothing; a call that hands back a row of its own; operations that look at no memory. -/
theorem WP.regionFresh {id : Nat} {Q : Exit → Env → Hp → Prop} (n : Nat) (hm : X.P.follows .mixedOrders = true) {l1 l3 : List Oper} {dst : Option Tmp} {f : Operand} {args : Array Operand} {ts : Array TypeId} {ty : TypeId} {pos : String} {after : Array Edge} {g : FuncId} {xs : List HV} {t : TypeId} {es : List (List HV)} {e1 e' : Env} {h1 h' : Hp}
    (hcut : cutN n ops.toList = some (l1, ⟨dst, .call ⟨.value f, args, ts⟩, ty, pos, after, none⟩, l3)) (hok : okD ops (ancT [] ops.toList) = true) (hp1 : (l1.all fun o => Op.plain (C.own.contains o.pos) o.op) = true) (hp3 : (l3.all fun o => Op.dry (C.own.contains o.pos) o.op) = true)
    (he1 : evalS X C ops l1 (some (e, h)) = some (e1, h1)) (hf : ev X e1 f = .fn (.func g) [] []) (hen : entersH X.P g = true) (hxs : args.toList.map (ev X e1) = xs) (hc : FreshCall X g xs t es)
    (he3 : evalS X C ops l3 (some (putE C.N e1 dst (.ow h.length 0 es.length), h ++ [.row t es])) = some (e', h')) (hq : h' = h ++ [.row t es] → Q .normal e' (h ++ [.row t es])) : WP X C (.region id ops true) Q e h := by
  refine WP.regionF hm (ancT [] ops.toList) [] hok ?_
  generalize ancT [] ops.toList = A
  obtain ⟨hsp, hn⟩ := cutN_eq hcut
  rw [hsp]
  refine opsF_plain l1 _ e 0 [] hp1 (fun x hx => by cases hx) he1 fun nw hnw => ?_
  simp only [opsF, wantH]
  rw [dmask_nil hnw, mask_nil]
  simp only [stepF, hf]
  refine ⟨hen, .inr ⟨t, es, ?_, rfl, ?_⟩⟩
  · rw [hxs, List.nil_append, List.append_nil]; exact hc
  · have := opsF_dry (A := A) (W := []) (Q := fun e h => Q .normal e h) l3 [] (putE C.N e1 dst (.ow h.length 0 es.length)) (0 + l1.length + 1) (nw ++ [newIds h.length ({ x := .ow h.length 0 es.length, ns := [.row t es] } : ER)]) (h := h ++ [.row t es]) hp3 he3 (by
      simp only [opsF]
      refine hq ?_
      have hd : ∀ (l : List Oper) (e e' : Env) (h h' : Hp), (l.all fun o => Op.dry (C.own.contains o.pos) o.op) = true → evalS X C ops l (some (e, h)) = some (e', h') → h' = h := by
        intro l
        induction l with
        | nil =>
          intro e e' h h' _ he
          simp only [evalS, Option.some.injEq, Prod.mk.injEq] at he
          exact he.2.symm
        | cons o l ih =>
          intro e e' h h' hp he
          simp only [List.all_cons, Bool.and_eq_true] at hp
          rw [evalS] at he
          unfold step1 at he
          simp only at he
          split at he
          · cases hr : opE X (C.own.contains o.pos) (ev X e) h h.length o.op with
            | none => rw [hr, Option.map_none, evalS_none] at he; cases he
            | some r =>
              rw [hr, Option.map_some] at he
              obtain ⟨w1, w2⟩ := opE_plain (Op.dry_plain hp.1) hr
              rw [w1, w2] at he
              simp only [setAll, List.append_nil] at he
              exact ih _ _ _ _ hp.2 he
          · exact ih _ _ _ _ hp.2 he
          · rw [evalS_none] at he; cases he
      exact hd l3 _ _ _ _ hp3 he3)
    rw [List.append_nil] at this
    simpa [setAll] using this
end

end Go.HL

