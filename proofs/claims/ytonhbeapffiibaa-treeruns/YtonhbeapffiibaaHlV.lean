/-
  HL, part V: the laws by which a walk is reckoned, under one name.
-/
import Derived.Test.YtonhbeapffiibaaHlU
namespace Go.HL

attribute [go_sem] evalS_nil evalS_cons step1_plain step1_guard step2_false optV_some optE_some step2_move step2_assign step2_pick pickH_bool step2_load step2_binOp orV_some orV_none step2_unOp step2_convert step2_makeFunc step2_slice step2_fieldAddr step2_field
  step2_indexAddr step2_index step2_extract step2_build step2_nilCheck step2_len step2_box step2_alloc step2_store step2_buildSlice step2_makeSlice step2_makeMap step2_lookup step2_mapUpdate step2_insert step2_range step2_next step2_entry step2_append step2_delete step2_min step2_max
  putE_some putE_none ev_tmp ev_const ev_func lit_bool lit_int lit_str lit_slice lit_nilFunc lit_nilIface lit_nilPtr lit_nilMap lit_agg

attribute [go_sem] loadH binH unH convH sliceH boundsH bndH fieldAddrH partH fieldValH indexAddrH indexH buildH fillH putCells lenH min2H max2H foldH fold2H extractH nilH boxH storeH buildSliceH makeSliceH chunk elemsH setAll HV.cells HV.one lit1 wantS
  rangeH nextH

attribute [go_sem] if_true if_false Option.map_some Option.map_none List.getElem?_cons_zero List.getElem?_cons_succ List.getElem?_nil List.length_cons List.length_nil Int.toNat_natCast Int.natCast_nonneg List.map_cons List.map_nil List.append_nil List.nil_append List.cons_append
  Int.toNat_zero Option.bind_some Option.bind_none List.drop_zero Nat.add_zero Nat.zero_add

section
variable {X : PG} {C : Cx} {Q : Exit → Env → Hp → Prop} {e : Env} {h : Hp}

theorem upd_at {e : Env} {d : Nat} {x : HV} : upd e d x d = x := by simp [upd]
theorem upd_off {e : Env} {d t : Nat} {x : HV} (ht : (t == d) = false) : upd e d x t = e t := by
  have : ¬ t = d := by simpa using ht
  simp [upd, this]

attribute [go_sem] upd_at upd_off

/-! What is asked behind a piece of code, taken apart. -/
theorem seqK_normal {y : Code} (hy : WP X C y Q e h) : seqK X C y Q .normal e h := hy
theorem seqK_exit {y : Code} {id : Nat} (hy : Q (.exit id) e h) : seqK X C y Q (.exit id) e h := hy
theorem seqK_ret {y : Code} (hy : Q .ret e h) : seqK X C y Q .ret e h := hy
theorem blockK_normal {id : Nat} (hy : Q .normal e h) : blockK id Q .normal e h := hy
theorem blockK_ret {id : Nat} (hy : Q .ret e h) : blockK id Q .ret e h := hy
theorem blockK_here {id : Nat} (hy : Q .normal e h) : blockK id Q (.exit id) e h := by simp only [blockK, if_true]; exact hy
theorem blockK_there {id id' : Nat} (hne : (id' == id) = false) (hy : Q (.exit id') e h) : blockK id Q (.exit id') e h := by
  have : ¬ id' = id := by simpa using hne
  simp only [blockK, if_neg this]; exact hy
theorem loopK_normal {I : Env → Hp → Prop} {μ : Env → Hp → Nat} {n : Nat} (h1 : I e h) (h2 : μ e h < n) : loopK I μ n Q .normal e h := ⟨h1, h2⟩
theorem loopK_exit {I : Env → Hp → Prop} {μ : Env → Hp → Nat} {n id : Nat} (hq : Q (.exit id) e h) : loopK I μ n Q (.exit id) e h := hq
theorem loopK_ret {I : Env → Hp → Prop} {μ : Env → Hp → Nat} {n : Nat} (hq : Q .ret e h) : loopK I μ n Q .ret e h := hq
theorem fnPost_ret {P : Program} {fn : Func} {R : HV → Hp → Prop} {r : HV} (hr : resH P fn e h = some r) (hR : R r h) : fnPost P fn R .ret e h := ⟨r, hr, hR⟩
theorem fnPost_normal {P : Program} {fn : Func} {R : HV → Hp → Prop} {r : HV} (hr : resH P fn e h = some r) (hR : R r h) : fnPost P fn R .normal e h := ⟨r, hr, hR⟩

/-- A test of a condition that is known. -/
theorem WP.condB {c : Operand} {x y : Code} {b : Bool} (hc : ev X e c = .bool b) (h1 : b = true → WP X C x Q e h) (h2 : b = false → WP X C y Q e h) : WP X C (.cond c x y) Q e h := by
  refine WP.cond ?_
  rw [hc]
  cases b with
  | true => exact h1 rfl
  | false => exact h2 rfl

/-- Slices are not longer than memory. -/
theorem WP.slLen {c : Code} {t : Nat} {full : Bool} {es : List (List HV)} (ht : e t = .sl full es) (hc : es.length ≤ maxLen → WP X C c Q e h) : WP X C c Q e h := by
  intro K B a he hh
  refine hc ?_ K B a he hh
  have hr := he.tmps t
  rw [ht] at hr
  obtain ⟨_, cap, _, h1, h2, _⟩ := hr.slice_some
  omega

/-- What is not needed of the environment may be forgotten. -/
theorem WP.abs {c : Code} (J : Env → Prop) (hJ : J e) (hc : ∀ e, J e → WP X C c Q e h) : WP X C c Q e h := hc e hJ

theorem CallsP.of_wpN [PG.Flat X] {f : FuncId} {fn : Func} {c : Code} {args : List HV} {R : HV → Prop} (own : List String) (N : Nat) (hf : X.P.funcs[f]? = some fn) (hb : fn.body = some c) (hN : args.length + (fn.ntmps - args.length) = N)
    (hc : WP X { N := N, own := own } c (fnPost X.P fn fun r h' => ∃ n y, rdV h' n r = some y ∧ R y) (argEnv N args) []) : CallsP X f args R := by
  subst hN
  exact CallsP.of_wp own hf hb hc

theorem CallsH.of_wpN {f : FuncId} {fn : Func} {c : Code} {args : List HV} {R : HV → Hp → Prop} (own : List String) (N : Nat) (hf : X.P.funcs[f]? = some fn) (hb : fn.body = some c) (hN : args.length + (fn.ntmps - args.length) = N)
    (hc : WP X { N := N, own := own } c (fnPost X.P fn R) (argEnv N args) h) : CallsH X f args h R := by
  subst hN
  exact CallsH.of_wp own hf hb hc

/-- The integer that a value is. -/
def HV.toInt : HV → Int
  | .int _ n => n
  | _ => 0

end
end Go.HL

