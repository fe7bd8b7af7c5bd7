/-
  HL, part F: the value operations, the rest; all of them in one theorem.
-/
import Derived.Test.YthfobbfechdoaaaHlE
namespace Go.HL
section
variable {X : PG} {K : KS} {h : Hp}

theorem fieldAt_run {t : TypeId} {fl : List (Nat × Nat × Bool)} {f off size : Nat} {ag : Bool} {a : Addr} (hs : structH X.P t = some fl) (hf : fl[f]? = some (off, size, ag)) (h0 : ¬ size = 0) :
    (Instr.fieldAt t (.pointer (some a)) f).run X.P K.w = .ok (.pointer (some (a.add off))) K.w := by
  obtain ⟨fs, hu, hfs⟩ := structH_get hs
  obtain ⟨fd, g1, g2, g3, g4⟩ := fieldsH_get hfs f _ hf
  simp only at g2 g3
  unfold Instr.fieldAt
  rw [Sem.run_bind, run_underlying hu]
  simp only [Result.andThen_ok]
  have e1 : fs[f]? = some fd := by simpa using g1
  rw [e1]
  simp only [Sem.run_bind, Instr.sureAddr, Sem.run_pure, Result.andThen_ok]
  unfold fieldPlace
  rw [Sem.run_bind, run_szH g3]
  simp only [Result.andThen_ok]
  rw [if_neg h0, g2]
  rfl

theorem fieldAddrH_sound {t : TypeId} {x y : HV} {v : Value} {f : Nat} (hx : RV K x v) (hf : fieldAddrH X.P t x f = some y) : ∃ u, (Instr.fieldAt t v f).run X.P K.w = .ok u K.w ∧ RV K y u := by
  unfold fieldAddrH at hf
  split at hf
  · cases hf
  · rename_i fl hs
    split at hf
    · cases hf
    · rename_i off size ag hfl
      split at hf
      · cases hf
      · rename_i h0
        split at hf
        · rename_i cs
          injection hf with hf; subst hf
          cases hx with
          | ip _ b o cv hb hL hc hr =>
            refine ⟨_, fieldAt_run hs hfl h0, ?_⟩
            rw [Addr.add_lit]
            refine .ip _ b (o + off) (fun j => cv (off + j)) hb hL (fun j hj => ?_) (fun j hj => ?_)
            · simp at hj
              rw [Nat.add_assoc]
              exact hc (off + j) (by omega)
            · simp at hj ⊢
              exact hr (off + j) (by omega)
        · rename_i id i o
          injection hf with hf; subst hf
          cases hx with
          | ep _ _ _ hA =>
            refine ⟨_, fieldAt_run hs hfl h0, ?_⟩
            rw [Addr.add_lit, Nat.add_assoc]
            exact .ep id i (o + off) hA
        · cases hf

theorem fieldValH_sound {t : TypeId} {x y : HV} {v : Value} {f : Nat} (hx : RV K x v) (hf : fieldValH X.P t x f = some y) : ∃ u, (Instr.field t v f).run X.P K.w = .ok u K.w ∧ RV K y u := by
  unfold fieldValH at hf
  split at hf
  · rename_i fl cs hs
    split at hf
    · cases hf
    · rename_i off size ag hfl
      cases hx with
      | agg _ vs hlen hr =>
        obtain ⟨fs, hu, hfs⟩ := structH_get hs
        obtain ⟨fd, g1, g2, g3, g4⟩ := fieldsH_get hfs f _ hfl
        simp only at g2 g3 g4
        have e1 : fs[f]? = some fd := by simpa using g1
        obtain ⟨u, h1, h2⟩ := run_part (X := X) (K := K) hlen hr g3 g4 hf
        refine ⟨u, ?_, h2⟩
        unfold Instr.field
        rw [Sem.run_bind, run_underlying hu]
        simp only [Result.andThen_ok]
        rw [e1]
        simp only [Sem.run_bind, asAgg, Sem.run_pure, Result.andThen_ok]
        rw [g2]
        exact h1
  · cases hf

theorem indexAt_slice {t e : TypeId} {k : Nat} {kk : IntKind} {n : Int} {a : Addr} {len cap : Nat} (hu : X.P.underlying t = some (.slice e)) (hk : szH X.P e = some k) (h0 : 0 ≤ n) (h1 : n < len) :
    (Instr.indexAt t (.slice (some a) len cap) (.int kk n)).run X.P K.w = .ok (.pointer (some (a.add (n.toNat * k)))) K.w := by
  unfold Instr.indexAt
  simp only [Sem.run_bind, asIntOf, Sem.run_pure, Result.andThen_ok, run_underlying hu]
  rw [if_pos ⟨h0, h1⟩]
  simp [run_szH hk]

theorem indexAt_array {t e : TypeId} {k : Nat} {kk : IntKind} {n : Int} {a : Addr} {len : Nat} (hu : X.P.underlying t = some (.array len e)) (hk : szH X.P e = some k) (h0 : 0 ≤ n) (h1 : n < len) :
    (Instr.indexAt t (.pointer (some a)) (.int kk n)).run X.P K.w = .ok (.pointer (some (a.add (n.toNat * k)))) K.w := by
  unfold Instr.indexAt
  simp only [Sem.run_bind, asIntOf, Sem.run_pure, Result.andThen_ok, run_underlying hu, Instr.sureAddr]
  rw [if_pos ⟨h0, h1⟩]
  simp [run_szH hk]

theorem indexAddrH_sound {t : TypeId} {x i y : HV} {v vi : Value} (hh : RH X K h) (hx : RV K x v) (hi : RV K i vi) (hf : indexAddrH X.P h t x i = some y) : ∃ u, (Instr.indexAt t v vi).run X.P K.w = .ok u K.w ∧ RV K y u := by
  unfold indexAddrH at hf
  split at hf
  · rename_i kk n
    have := hi.ofInt
    subst this
    split at hf
    · rename_i h0
      split at hf
      · rename_i full es
        split at hf
        · cases hf
        · rename_i e he
          split at hf
          · cases hf
          · rename_i cs hcs
            split at hf
            · rename_i hk
              injection hf with hf; subst hf
              obtain ⟨hn, ee⟩ := List.getElem?_eq_some_iff.1 hcs
              obtain ⟨a, cap, rfl, g1, g2, g3, g4, g5⟩ := hx.slice_some
              obtain ⟨k, b, off, cv, rfl, f1, f2, f3, f4, f5⟩ := g5 (by omega)
              have hkk : cs.length = k := by rw [← ee]; exact f3 _ hn
              refine ⟨_, indexAt_slice (elemH_eq he) hk h0 (by omega), ?_⟩
              rw [Addr.add_lit]
              refine .ip _ b (off + n.toNat * cs.length) (fun j => cv n.toNat j) f1 f2 (fun j hj => ?_) (fun j hj => ?_)
              · have := f4 _ hn j (by rw [ee]; exact hj)
                rw [hkk]; exact this
              · have := f5 _ hn j (by rw [ee]; exact hj)
                simpa [ee] using this
            · cases hf
      · rename_i id lo len
        split at hf
        · rename_i e t' es he ho
          split at hf
          · rename_i hlt
            split at hf
            · cases hf
            · rename_i cs hcs
              split at hf
              · rename_i hk
                injection hf with hf; subst hf
                obtain ⟨hn, ee⟩ := List.getElem?_eq_some_iff.1 hcs
                obtain ⟨hA, av, capv, rfl, c1, c2, c3, c4, c5⟩ := hx.ow_inv
                obtain ⟨_, hc0, hrow⟩ := hh.obj id _ hA ho
                have hcne : K.c id ≠ 0 := fun e => by have := hc0 e; subst this; simp at hn
                obtain ⟨cur, hcur, hcs', hlen, hmax, hkk, hone, hcell⟩ := hrow hcne
                obtain ⟨rfl, rfl, d1, d2⟩ := c4 hcne
                have hKk : K.k id = cs.length := by rw [← ee]; exact (hkk _ hn).symm
                refine ⟨_, indexAt_slice (elemH_eq he) hk h0 hlt, ?_⟩
                rw [Addr.add_lit]
                rw [show lo * K.k id + n.toNat * cs.length = (lo + n.toNat) * K.k id + 0 from by rw [Nat.add_mul, ← hKk]; rfl]
                exact .ep id (lo + n.toNat) 0 hA
              · cases hf
          · cases hf
        · cases hf
      · rename_i cs
        split at hf
        · cases hf
        · rename_i len e ha
          split at hf
          · cases hf
          · rename_i k hk
            split at hf
            · rename_i hlt
              injection hf with hf; subst hf
              cases hx with
              | ip _ b o cv hb hL hc hr =>
                refine ⟨_, indexAt_array (arrH_eq ha) hk h0 hlt, ?_⟩
                rw [Addr.add_lit]
                refine .ip _ b (o + n.toNat * k) (fun j => cv (n.toNat * k + j)) hb hL (fun j hj => ?_) (fun j hj => ?_)
                · simp at hj
                  rw [Nat.add_assoc]
                  exact hc (n.toNat * k + j) (by omega)
                · simp at hj ⊢
                  exact hr (n.toNat * k + j) (by omega)
            · cases hf
      · rename_i id j off
        split at hf
        · cases hf
        · rename_i len e ha
          split at hf
          · cases hf
          · rename_i k hk
            split at hf
            · rename_i hlt
              injection hf with hf; subst hf
              cases hx with
              | ep _ _ _ hA =>
                refine ⟨_, indexAt_array (arrH_eq ha) hk h0 hlt, ?_⟩
                rw [Addr.add_lit, Nat.add_assoc]
                exact .ep id j _ hA
            · cases hf
      · cases hf
    · cases hf
  · cases hf

theorem indexH_sound {t : TypeId} {x i y : HV} {v vi : Value} (hx : RV K x v) (hi : RV K i vi) (hf : indexH X.P t x i = some y) : ∃ u, (Instr.index t v vi).run X.P K.w = .ok u K.w ∧ RV K y u := by
  unfold indexH at hf
  split at hf
  · rename_i kk n
    have := hi.ofInt
    subst this
    split at hf
    · rename_i h0
      split at hf
      · rename_i s
        have := hx.ofStr
        subst this
        split at hf
        · rename_i b hu hb
          injection hf with hf; subst hf
          refine ⟨_, ?_, .int _ _⟩
          unfold Instr.index
          simp only [Sem.run_bind, asIntOf, Sem.run_pure, Result.andThen_ok, run_underlying hu]
          rw [if_pos h0, hb]
          rfl
        · cases hf
      · rename_i cs
        split at hf
        · cases hf
        · rename_i len e ha
          split at hf
          · rename_i k ag hk hag
            split at hf
            · rename_i hlt
              cases hx with
              | agg _ vs hlen hr =>
                obtain ⟨u, h1, h2⟩ := run_part (X := X) (K := K) hlen hr hk hag hf
                refine ⟨u, ?_, h2⟩
                unfold Instr.index
                simp only [Sem.run_bind, asIntOf, Sem.run_pure, Result.andThen_ok, run_underlying (arrH_eq ha)]
                rw [if_pos ⟨h0, hlt⟩]
                simp only [Sem.run_bind, run_szH hk, Result.andThen_ok]
                exact h1
            · cases hf
          · cases hf
      · cases hf
    · cases hf
  · cases hf

theorem extractH_sound {x y : HV} {v : Value} {i : Nat} (hx : RV K x v) (hf : extractH x i = some y) : ∃ u, (Instr.extract v i).run X.P K.w = .ok u K.w ∧ RV K y u := by
  unfold extractH at hf
  split at hf
  · rename_i vs
    obtain ⟨h0, e0⟩ := List.getElem?_eq_some_iff.1 hf
    cases hx with
    | tup _ us hlen hr =>
      have h0' : i < us.size := by omega
      refine ⟨us[i], ?_, by rw [← e0]; exact hr i h0⟩
      unfold Instr.extract
      simp [h0']
  · cases hf

theorem lenH_sound {t : TypeId} {x y : HV} {v : Value} {ty : TypeId} {argTypes : Array TypeId} (hh : RH X K h) (ht : argTypes[0]? = some t) (hx : RV K x v) (hf : lenH X.P h t x = some y) :
    ∃ u, (Builtin.len_ argTypes ty #[v]).run X.P K.w = .ok u K.w ∧ RV K y u := by
  unfold lenH at hf
  have e0 : ((#[v] : Array Value)[0]? : Option Value) = some v := rfl
  split at hf
  · rename_i full es
    obtain ⟨e, he, rfl⟩ := Option.map_eq_some_iff.1 hf
    obtain ⟨a, cap, rfl, _⟩ := hx.slice_some
    refine ⟨_, ?_, .int _ _⟩
    unfold Builtin.len_
    simp only [ht, e0, Sem.run_bind, run_underlying (elemH_eq he), Result.andThen_ok]
    rfl
  · rename_i id lo len
    obtain ⟨e, he, rfl⟩ := Option.map_eq_some_iff.1 hf
    obtain ⟨_, _, _, rfl, _⟩ := hx.ow_inv
    refine ⟨_, ?_, .int _ _⟩
    unfold Builtin.len_
    simp only [ht, e0, Sem.run_bind, run_underlying (elemH_eq he), Result.andThen_ok]
    rfl
  · rename_i s
    have := hx.ofStr
    subst this
    split at hf
    · rename_i hu
      injection hf with hf; subst hf
      refine ⟨_, ?_, .int _ _⟩
      unfold Builtin.len_
      simp only [ht, e0, Sem.run_bind, run_underlying hu, Result.andThen_ok]
      rfl
    · cases hf
  · split at hf
    · rename_i k e hu
      injection hf with hf; subst hf
      cases hx
      refine ⟨_, ?_, .int _ _⟩
      unfold Builtin.len_
      simp only [ht, e0, Sem.run_bind, run_underlying hu, Result.andThen_ok]
      rfl
    · cases hf
  · rename_i id
    split at hf
    · rename_i k e kvs ver hu ho
      injection hf with hf; subst hf
      cases hx with
      | mp _ hA =>
        obtain ⟨_, es, h1, h2, _⟩ := hh.obj id _ hA ho
        refine ⟨.int .i64 es.size, ?_, by rw [h2]; exact .int _ _⟩
        unfold Builtin.len_
        simp only [ht, e0, Sem.run_bind, run_underlying hu, Result.andThen_ok]
        simp [getObj, Sem.run, h1, goInt]
    · cases hf
  · cases hf

theorem fold2H_sound {f : HV → HV → Option HV} {g : Value → Value → Sem Value} (hfg : ∀ x y z a b, RV K x a → RV K y b → f x y = some z → ∃ v, (g a b).run X.P K.w = .ok v K.w ∧ RV K z v) :
    ∀ (ys : List HV) (bs : List Value) (x : HV) (a : Value) (z : HV), ys.length = bs.length → (∀ (i : Nat) y b, ys[i]? = some y → bs[i]? = some b → RV K y b) → RV K x a → fold2H f x ys = some z →
      ∃ v, (bs.foldlM g a).run X.P K.w = .ok v K.w ∧ RV K z v := by
  intro ys
  induction ys with
  | nil =>
    intro bs x a z hl _ hx hf
    cases bs with
    | nil => simp [fold2H] at hf; subst hf; exact ⟨a, rfl, hx⟩
    | cons _ _ => simp at hl
  | cons y ys ih =>
    intro bs x a z hl hy hx hf
    cases bs with
    | nil => simp at hl
    | cons b bs =>
      simp only [fold2H] at hf
      split at hf
      · rename_i z' hz'
        obtain ⟨v, h1, h2⟩ := hfg _ _ _ _ _ hx (hy 0 _ _ rfl rfl) hz'
        obtain ⟨u, g1, g2⟩ := ih bs z' v z (by simpa using hl) (fun i y b h1 h2 => hy (i + 1) y b h1 h2) h2 hf
        refine ⟨u, ?_, g2⟩
        rw [List.foldlM_cons, Sem.run_bind, h1]
        exact g1
      · cases hf

theorem min2H_sound {x y z : HV} {a b : Value} (hx : RV K x a) (hy : RV K y b) (hf : min2H x y = some z) : ∃ v, (Builtin.min2 a b).run X.P K.w = .ok v K.w ∧ RV K z v := by
  unfold min2H at hf
  split at hf
  · have := hx.ofInt; subst this
    have := hy.ofInt; subst this
    split at hf
    · injection hf with hf; subst hf
      exact ⟨_, rfl, .int _ _⟩
    · cases hf
  · cases hf

theorem max2H_sound {x y z : HV} {a b : Value} (hx : RV K x a) (hy : RV K y b) (hf : max2H x y = some z) : ∃ v, (Builtin.max2 a b).run X.P K.w = .ok v K.w ∧ RV K z v := by
  unfold max2H at hf
  split at hf
  · have := hx.ofInt; subst this
    have := hy.ofInt; subst this
    split at hf
    · injection hf with hf; subst hf
      exact ⟨_, rfl, .int _ _⟩
    · cases hf
  · cases hf

/-- **All value operations.** -/
theorem opV_sound {ρ : Operand → HV} {ρv : Operand → Value} {o : Oper} {x : HV} (hh : RH X K h) (hρ : ∀ y, RV K (ρ y) (ρv y)) (ho : opV X ρ h o.op = some x) : ValRun X K ρv o x := by
  obtain ⟨dst, op, type, pos, after, guard⟩ := o
  simp only at ho
  cases op with
  | move y => simp only [opV, Option.some.injEq] at ho; subst ho; exact ⟨_, rfl, hρ y⟩
  | assign y => simp only [opV, Option.some.injEq] at ho; subst ho; exact ⟨_, rfl, hρ y⟩
  | pick c a b =>
    simp only [opV] at ho
    split at ho
    · rename_i t hc
      injection ho with ho; subst ho
      have := hρ c
      rw [hc] at this
      have := this.ofBool
      refine ⟨if t then ρv a else ρv b, ?_, by cases t <;> exact hρ _⟩
      unfold execOp
      simp only [this, asBool, Sem.run_bind, Sem.run_pure, Result.andThen_ok]
    · cases ho
  | load t a =>
    simp only [opV] at ho
    obtain ⟨ad, u, h1, h2, h3⟩ := loadH_run hh (hρ a) ho
    refine ValRun.of rfl ⟨u, ?_, h3⟩
    unfold Instr.loadAt
    rw [h1]
    exact h2
  | nilCheck y =>
    simp only [opV] at ho
    have hy := hρ y
    split at ho <;> first | (cases ho; done) | skip
    all_goals
      rename_i he
      injection ho with ho; subst ho
      rw [he] at hy
      generalize hv : ρv y = v at hy
      refine ⟨v, ?_, hy⟩
      unfold execOp
      simp only [hv]
      cases hy
      rfl
  | binOp op t x' y yt =>
    simp only [opV] at ho
    exact ValRun.of rfl (binH_sound (hρ x') (hρ y) ho x' y)
  | unOp op t y => simp only [opV] at ho; exact ValRun.of rfl (unH_sound (hρ y) ho)
  | convert s d y => simp only [opV] at ho; exact ValRun.of rfl (convH_sound (hρ y) ho)
  | makeFunc fn first captured =>
    simp only [opV, Option.some.injEq] at ho
    subst ho
    refine ValRun.of rfl ⟨.func fn (first.map ρv) (captured.map ρv), rfl, .fn _ _ _ _ _ (by simp) (by simp) (fun i hi => ?_) (fun i hi => ?_)⟩
    · simp; exact hρ _
    · simp; exact hρ _
  | slice t y lo hi mx => simp only [opV] at ho; exact ValRun.of rfl (sliceH_sound hh (hρ y) (OV.map hρ lo) (OV.map hρ hi) (OV.map hρ mx) ho)
  | fieldAddr s y f => simp only [opV] at ho; exact ValRun.of rfl (fieldAddrH_sound (hρ y) ho)
  | field t y f => simp only [opV] at ho; exact ValRun.of rfl (fieldValH_sound (hρ y) ho)
  | indexAddr t y i => simp only [opV] at ho; exact ValRun.of rfl (indexAddrH_sound hh (hρ y) (hρ i) ho)
  | index t y i => simp only [opV] at ho; exact ValRun.of rfl (indexH_sound (hρ y) (hρ i) ho)
  | extract y i => simp only [opV] at ho; exact ValRun.of rfl (extractH_sound (hρ y) ho)
  | build t parts =>
    simp only [opV] at ho
    refine ValRun.of rfl (buildH_sound (vparts := parts.map fun p => (p.1, ρv p.2)) (by simp) (fun j p q h1 h2 => ?_) ho)
    simp only [List.getElem?_map, Array.toList_map] at h1 h2
    obtain ⟨p0, e1, e2⟩ := Option.map_eq_some_iff.1 h1
    obtain ⟨q0, e3, e4⟩ := Option.map_eq_some_iff.1 h2
    rw [e1] at e3
    injection e3 with e3
    subst e3 e2 e4
    exact ⟨rfl, hρ _⟩
  | call c =>
    simp only [opV] at ho
    obtain ⟨callee, args, argTypes⟩ := c
    simp only at ho
    split at ho
    · rename_i hcal
      split at ho
      · rename_i t ts y ht hy
        obtain ⟨u, h1, h2⟩ := lenH_sound (ty := type) (argTypes := argTypes) hh (by rw [← Array.getElem?_toList, ht]; rfl) (hρ y) ho
        refine ⟨u, ?_, h2⟩
        have ea : args = #[y] := by cases args; simp_all
        subst ea
        unfold execOp
        simp only [resolve, Sem.run_bind, Sem.run_pure, Result.andThen_ok, invoke, builtin]
        have e2 : Array.map ρv #[y] = #[ρv y] := by simp
        rw [e2, h1]
        rfl
      · cases ho
    · cases hargs : args.toList with
      | nil => rw [hargs] at ho; simp [foldH] at ho
      | cons a rest =>
        rw [hargs] at ho
        simp only [List.map_cons, foldH] at ho
        obtain ⟨u, h1, h2⟩ := fold2H_sound (X := X) (f := min2H) (g := Builtin.min2) (fun _ _ _ _ _ => min2H_sound) (rest.map ρ) (rest.map ρv) (ρ a) (ρv a) x (by simp) (fun i y b g1 g2 => by
          simp only [List.getElem?_map] at g1 g2
          obtain ⟨p, e1, e2⟩ := Option.map_eq_some_iff.1 g1
          obtain ⟨q, e3, e4⟩ := Option.map_eq_some_iff.1 g2
          rw [e1] at e3; injection e3 with e3; subst e3 e2 e4; exact hρ _) (hρ a) ho
        refine ⟨u, ?_, h2⟩
        unfold execOp
        simp only [resolve, Sem.run_bind, Sem.run_pure, Result.andThen_ok, invoke, builtin, Builtin.min_]
        rw [Array.toList_map, hargs]
        simp only [List.map_cons]
        rw [h1]
        rfl
    · cases hargs : args.toList with
      | nil => rw [hargs] at ho; simp [foldH] at ho
      | cons a rest =>
        rw [hargs] at ho
        simp only [List.map_cons, foldH] at ho
        obtain ⟨u, h1, h2⟩ := fold2H_sound (X := X) (f := max2H) (g := Builtin.max2) (fun _ _ _ _ _ => max2H_sound) (rest.map ρ) (rest.map ρv) (ρ a) (ρv a) x (by simp) (fun i y b g1 g2 => by
          simp only [List.getElem?_map] at g1 g2
          obtain ⟨p, e1, e2⟩ := Option.map_eq_some_iff.1 g1
          obtain ⟨q, e3, e4⟩ := Option.map_eq_some_iff.1 g2
          rw [e1] at e3; injection e3 with e3; subst e3 e2 e4; exact hρ _) (hρ a) ho
        refine ⟨u, ?_, h2⟩
        unfold execOp
        simp only [resolve, Sem.run_bind, Sem.run_pure, Result.andThen_ok, invoke, builtin, Builtin.max_]
        rw [Array.toList_map, hargs]
        simp only [List.map_cons]
        rw [h1]
        rfl
    · cases ho
  | _ => simp [opV] at ho

end
end Go.HL
