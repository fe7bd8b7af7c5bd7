/-
  HL, part D: the operations that hand back a value and leave the world alone.
-/
import Derived.Test.YthfobbfechdoaaaHlC
namespace Go.HL

def elemH (P : Program) (t : TypeId) : Option TypeId := match P.underlying t with | some (.slice e) => some e | _ => none
def arrH (P : Program) (t : TypeId) : Option (Nat × TypeId) := match P.underlying t with | some (.array n e) => some (n, e) | _ => none
/-- A struct's fields: offset, size, whether an aggregate. -/
def fieldsH (P : Program) : List Field → Option (List (Nat × Nat × Bool))
  | [] => some []
  | f :: fs =>
    match szH P f.type, isAggH P f.type, fieldsH P fs with
    | some k, some g, some r => some ((f.offset, k, g) :: r)
    | _, _, _ => none
def structH (P : Program) (t : TypeId) : Option (List (Nat × Nat × Bool)) :=
  match P.underlying t with
  | some (.struct fs) => fieldsH P fs.toList
  | _ => none
def zeroH (P : Program) (t : TypeId) : Option HV := ((P.info? t).bind (·.zero)).map lit
def bytesH (P : Program) (t : TypeId) : Option Nat := (P.info? t).map (·.bytes)

section
variable {P : Program} {w : World}

theorem run_szH {t : TypeId} {k : Nat} (h : szH P t = some k) : (sizeOf t).run P w = .ok k w := by
  unfold szH at h
  obtain ⟨i, hi, rfl⟩ := Option.map_eq_some_iff.1 h
  unfold sizeOf typeInfo
  simp [hi]

theorem run_zeroH {t : TypeId} {z : HV} (h : zeroH P t = some z) : ∃ v, (zeroValue t).run P w = .ok v w ∧ ∀ K, RV K z v := by
  unfold zeroH at h
  obtain ⟨v, hv, rfl⟩ := Option.map_eq_some_iff.1 h
  obtain ⟨i, hi, hz⟩ := Option.bind_eq_some_iff.1 hv
  refine ⟨v, ?_, fun K => lit_ok K v⟩
  unfold zeroValue typeInfo
  simp [hi, hz]

theorem elemH_eq {t e : TypeId} (h : elemH P t = some e) : P.underlying t = some (.slice e) := by
  unfold elemH at h
  split at h
  · rename_i hu; rw [hu]; injection h with h; rw [h]
  · cases h

theorem arrH_eq {t e : TypeId} {n : Nat} (h : arrH P t = some (n, e)) : P.underlying t = some (.array n e) := by
  unfold arrH at h
  split at h
  · rename_i hu; rw [hu]; injection h with h; injection h with h1 h2; rw [h1, h2]
  · cases h

theorem fieldsH_get : ∀ {fs : List Field} {l : List (Nat × Nat × Bool)}, fieldsH P fs = some l → ∀ (i : Nat) (x : Nat × Nat × Bool), l[i]? = some x →
    ∃ f, fs[i]? = some f ∧ f.offset = x.1 ∧ szH P f.type = some x.2.1 ∧ isAggH P f.type = some x.2.2 := by
  intro fs
  induction fs with
  | nil => intro l h i x hx; simp [fieldsH] at h; subst h; simp at hx
  | cons f fs ih =>
    intro l h i x hx
    simp only [fieldsH] at h
    split at h
    · rename_i k g r h1 h2 h3
      injection h with h
      subst h
      cases i with
      | zero => simp at hx; subst hx; exact ⟨f, rfl, rfl, h1, h2⟩
      | succ i => exact ih h3 i x (by simpa using hx)
    · cases h

theorem structH_get {t : TypeId} {l : List (Nat × Nat × Bool)} (h : structH P t = some l) : ∃ fs, P.underlying t = some (.struct fs) ∧ fieldsH P fs.toList = some l := by
  unfold structH at h
  split at h
  · rename_i fs hu; exact ⟨fs, hu, h⟩
  · cases h
end

def inK (k : IntKind) (n : Int) : Prop := k.min ≤ n ∧ n ≤ k.max

/-- Operations on two integers, two strings, two bools, and comparisons with nil. -/
def binH (P : Program) (op : BinOp) (t : TypeId) : HV → HV → Option HV
  | .int k a, .int k' b =>
    match op with
    | .shl => if b < 0 then none else some (.int k (k.wrap (a * 2 ^ (min b.toNat k.bits))))
    | .shr => if b < 0 then none else some (.int k (a.fdiv (2 ^ (min b.toNat k.bits))))
    | op =>
      if k = k' then
        match op with
        | .add => some (.int k (k.wrap (a + b)))
        | .sub => some (.int k (k.wrap (a - b)))
        | .mul => some (.int k (k.wrap (a * b)))
        | .quo => if b = 0 then none else some (.int k (k.wrap (a.tdiv b)))
        | .rem => if b = 0 then none else some (.int k (a.tmod b))
        | .and => some (.int k (k.wrap (BitVec.ofInt k.bits a &&& BitVec.ofInt k.bits b).toNat))
        | .or => some (.int k (k.wrap (BitVec.ofInt k.bits a ||| BitVec.ofInt k.bits b).toNat))
        | .xor => some (.int k (k.wrap (BitVec.ofInt k.bits a ^^^ BitVec.ofInt k.bits b).toNat))
        | .andNot => some (.int k (k.wrap (BitVec.ofInt k.bits a &&& ~~~ BitVec.ofInt k.bits b).toNat))
        | .eql => some (.bool (decide (a = b)))
        | .neq => some (.bool (!decide (a = b)))
        | .lss => some (.bool (decide (a < b)))
        | .leq => some (.bool (decide (a ≤ b)))
        | .gtr => some (.bool (decide (b < a)))
        | .geq => some (.bool (decide (b ≤ a)))
        | _ => none
      else none
  | .str a, .str b =>
    match op with
    | .add => if ((a.size + b.size : Nat) : Int) > 9223372036854775807 then none else some (.str (a ++ b))
    | .eql => some (.bool (a.toList == b.toList))
    | .neq => some (.bool !(a.toList == b.toList))
    | .lss => some (.bool (Op.bytesLess a.toList b.toList))
    | .leq => some (.bool (Op.bytesLess a.toList b.toList || a.toList == b.toList))
    | .gtr => some (.bool !(Op.bytesLess a.toList b.toList || a.toList == b.toList))
    | .geq => some (.bool !Op.bytesLess a.toList b.toList)
    | _ => none
  | .bool a, .bool b =>
    match P.underlying t, op with
    | some .bool, .eql => some (.bool (a == b))
    | some .bool, .neq => some (.bool !(a == b))
    | _, _ => none
  | x, y =>
    match P.underlying t, x, y, op with
    | some (.pointer _), .nul (.pointer none), .nul (.pointer none), .eql => some (.bool true)
    | some (.pointer _), .nul (.pointer none), .nul (.pointer none), .neq => some (.bool false)
    | some (.pointer _), .ip _, .nul (.pointer none), .eql => some (.bool false)
    | some (.pointer _), .ip _, .nul (.pointer none), .neq => some (.bool true)
    | some (.pointer _), .ep _ _ _, .nul (.pointer none), .eql => some (.bool false)
    | some (.pointer _), .ep _ _ _, .nul (.pointer none), .neq => some (.bool true)
    | _, _, _, _ => none

theorem run_eqGuard_pass {P : Program} {w : World} {op : BinOp} {t : TypeId} {x y : Operand} {a b : Value} (h : ∀ p q, (a, b) ≠ (.agg p, .agg q)) (h2 : (a, b) ≠ (.nilIface, .nilIface)) :
    (eqGuard op t x y a b).run P w = .ok () w := by
  unfold eqGuard
  split
  all_goals
    simp only [Bool.not_true, Bool.false_eq_true, if_false, Bool.not_false, if_true]
    first
    | rfl
    | (split
       · exact absurd rfl h2
       · exact absurd rfl (h _ _)
       · rfl)

theorem run_equal_bool {P : Program} {w : World} {t : TypeId} (hu : P.underlying t = some .bool) (p q : Bool) : (Op.equal t (.bool p) (.bool q)).run P w = .ok (p == q) w := by
  unfold Op.equal Op.maxDepth Op.equalIn
  rw [Sem.run_bind, run_underlying hu]
  rfl

theorem run_equal_nil {P : Program} {w : World} {t e : TypeId} (hu : P.underlying t = some (.pointer e)) (a : Option Addr) : (Op.equal t (.pointer a) (.pointer none)).run P w = .ok a.isNone w := by
  unfold Op.equal Op.maxDepth Op.equalIn
  rw [Sem.run_bind, run_underlying hu]
  cases a <;> rfl

theorem run_eql {P : Program} {w : World} {t : TypeId} {x y : Value} {r : Bool} (hb : binOp .eql t x y = (do pure (.bool (← Op.equal t x y)) : Sem Value)) (h : (Op.equal t x y).run P w = .ok r w) : (binOp .eql t x y).run P w = .ok (.bool r) w := by
  rw [hb, Sem.run_bind, h]; rfl
theorem run_neq {P : Program} {w : World} {t : TypeId} {x y : Value} {r : Bool} (hb : binOp .neq t x y = (do pure (.bool (!(← Op.equal t x y))) : Sem Value)) (h : (Op.equal t x y).run P w = .ok r w) : (binOp .neq t x y).run P w = .ok (.bool !r) w := by
  rw [hb, Sem.run_bind, h]; rfl

theorem binInt_run {P : Program} {w : World} {op : BinOp} {t : TypeId} {k k' : IntKind} {a b : Int} {z : HV} (h : binH P op t (.int k a) (.int k' b) = some z) :
    ∃ v, (binOp op t (.int k a) (.int k' b)).run P w = .ok v w ∧ ∀ K, RV K z v := by
  by_cases hkk : k = k'
  · subst hkk
    cases op <;> simp [binH] at h
    case add => subst h; exact ⟨_, by simp [binOp, Op.intArith], fun K => .int _ _⟩
    case sub => subst h; exact ⟨_, by simp [binOp, Op.intArith], fun K => .int _ _⟩
    case mul => subst h; exact ⟨_, by simp [binOp, Op.intArith], fun K => .int _ _⟩
    case and => subst h; exact ⟨_, by simp [binOp, Op.intBits], fun K => .int _ _⟩
    case or => subst h; exact ⟨_, by simp [binOp, Op.intBits], fun K => .int _ _⟩
    case xor => subst h; exact ⟨_, by simp [binOp, Op.intBits], fun K => .int _ _⟩
    case andNot => subst h; exact ⟨_, by simp [binOp, Op.intBits], fun K => .int _ _⟩
    case quo => obtain ⟨h0, h⟩ := h; subst h; exact ⟨_, by simp [binOp, Op.intDiv, h0], fun K => .int _ _⟩
    case rem => obtain ⟨h0, h⟩ := h; subst h; exact ⟨_, by simp [binOp, Op.intDiv, h0], fun K => .int _ _⟩
    case shl => obtain ⟨h0, h⟩ := h; subst h; exact ⟨_, by simp [binOp, Op.shift, Int.not_lt.2 h0], fun K => .int _ _⟩
    case shr => obtain ⟨h0, h⟩ := h; subst h; exact ⟨_, by simp [binOp, Op.shift, Int.not_lt.2 h0], fun K => .int _ _⟩
    case eql => subst h; exact ⟨.bool (a == b), by simp [binOp, Op.intCmp], fun K => (show (a == b) = decide (a = b) from rfl) ▸ .bool _⟩
    case neq => subst h; exact ⟨.bool (a != b), by simp [binOp, Op.intCmp], fun K => (show (a != b) = !decide (a = b) from rfl) ▸ .bool _⟩
    case lss => subst h; exact ⟨.bool (decide (a < b)), by simp [binOp, Op.intCmp], fun K => .bool _⟩
    case leq => subst h; exact ⟨.bool (decide (a ≤ b)), by simp [binOp, Op.intCmp], fun K => .bool _⟩
    case gtr => subst h; exact ⟨.bool (decide (a > b)), by simp [binOp, Op.intCmp], fun K => .bool _⟩
    case geq => subst h; exact ⟨.bool (decide (a ≥ b)), by simp [binOp, Op.intCmp], fun K => .bool _⟩
  · cases op <;> simp [binH, hkk] at h
    all_goals
      obtain ⟨h0, h⟩ := h
      subst h
      exact ⟨_, by simp [binOp, Op.shift, Int.not_lt.2 h0], fun K => .int _ _⟩

theorem binStr_run {P : Program} {w : World} {op : BinOp} {t : TypeId} {a b : ByteArray} {z : HV} (h : binH P op t (.str a) (.str b) = some z) :
    ∃ v, (binOp op t (.string a) (.string b)).run P w = .ok v w ∧ ∀ K, RV K z v := by
  cases op <;> simp [binH] at h
  case add =>
    obtain ⟨h0, h⟩ := h
    subst h
    refine ⟨.string (a ++ b), ?_, fun K => .str _⟩
    have h0' : ¬ (((a.size + b.size : Nat) : Int) > IntKind.i64.max) := by simp [IntKind.max, IntKind.signed, IntKind.bits]; omega
    show (Op.stringOp .add a b).run P w = _
    unfold Op.stringOp
    simp only []
    rw [if_neg h0']
    rfl
  case gtr => subst h; exact ⟨_, rfl, fun K => by rw [Bool.not_or]; exact .bool _⟩
  all_goals (subst h; exact ⟨_, rfl, fun K => .bool _⟩)

theorem binH_sound {P : Program} {K : KS} {op : BinOp} {t : TypeId} {x y z : HV} {a b : Value} (hx : RV K x a) (hy : RV K y b) (h : binH P op t x y = some z) (ox oy : Operand) :
    ∃ v, (do eqGuard op t ox oy a b; binOp op t a b : Sem Value).run P K.w = .ok v K.w ∧ RV K z v := by
  have ext : ∀ v, (∀ p q, (a, b) ≠ (Value.agg p, Value.agg q)) → (a, b) ≠ (Value.nilIface, Value.nilIface) → (binOp op t a b).run P K.w = .ok v K.w → RV K z v →
      ∃ v, (do eqGuard op t ox oy a b; binOp op t a b : Sem Value).run P K.w = .ok v K.w ∧ RV K z v := fun v h1 h2 h3 h4 => ⟨v, by
        rw [Sem.run_bind, run_eqGuard_pass h1 h2]; exact h3, h4⟩
  have nilp : ∀ (p : Option Addr) (u : Value) (e : TypeId), a = .pointer p → y = .nul u → P.underlying t = some (.pointer e) → u = .pointer none →
      (op = .eql ∧ z = .bool p.isNone ∨ op = .neq ∧ z = .bool !p.isNone) → ∃ v, (do eqGuard op t ox oy a b; binOp op t a b : Sem Value).run P K.w = .ok v K.w ∧ RV K z v := by
    intro p u e h1 h2 h3 h4 h5
    subst h1 h2 h4
    cases hy
    rcases h5 with ⟨rfl, rfl⟩ | ⟨rfl, rfl⟩
    · exact ext _ (by simp) (by simp) (run_eql rfl (run_equal_nil h3 p)) (.bool _)
    · exact ext _ (by simp) (by simp) (run_neq rfl (run_equal_nil h3 p)) (.bool _)
  cases hx with
  | int k n =>
    cases hy with
    | int k' m => obtain ⟨v, h1, h2⟩ := binInt_run (w := K.w) h; exact ext v (by simp) (by simp) h1 (h2 K)
    | _ => cases op <;> simp [binH] at h
  | str s =>
    cases hy with
    | str s' => obtain ⟨v, h1, h2⟩ := binStr_run (w := K.w) h; exact ext v (by simp) (by simp) h1 (h2 K)
    | _ => cases op <;> simp [binH] at h
  | bool p =>
    cases hy with
    | bool q =>
      simp only [binH] at h
      split at h
      · rename_i hu
        injection h with h
        subst h
        exact ext _ (by simp) (by simp) (run_eql rfl (run_equal_bool hu p q)) (.bool _)
      · rename_i hu
        injection h with h
        subst h
        exact ext _ (by simp) (by simp) (run_neq rfl (run_equal_bool hu p q)) (.bool _)
      · cases h
    | _ => simp [binH] at h
  | nul v hv =>
    simp only [binH] at h
    split at h <;> first | (cases h; done) | skip
    all_goals
      rename_i e hP hx
      first
      | (cases hx; done)
      | (cases hx
         injection h with h
         subst h
         refine nilp none _ e rfl rfl hP rfl ?_
         simp)
  | ip cs b off cv hb hL hc hr =>
    simp only [binH] at h
    split at h <;> first | (cases h; done) | skip
    all_goals
      rename_i e hP hx
      first
      | (cases hx; done)
      | (cases hx
         injection h with h
         subst h
         refine nilp (some ⟨b, off, none⟩) _ _ rfl rfl ‹P.underlying t = _› rfl ?_
         simp)
  | ep id i off hA =>
    simp only [binH] at h
    split at h <;> first | (cases h; done) | skip
    all_goals
      rename_i e hP hx
      first
      | (cases hx; done)
      | (cases hx
         injection h with h
         subst h
         refine nilp (some _) _ _ rfl rfl ‹P.underlying t = _› rfl ?_
         simp)
  | _ => simp [binH] at h

end Go.HL
