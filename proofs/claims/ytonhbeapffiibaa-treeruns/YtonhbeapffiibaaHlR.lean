/-
  HL, part R: regions that draw their order, second part: the plan; what stands after a part of the operations.
-/
import Derived.Test.YtonhbeapffiibaaHlQ
namespace Go.HL

theorem setAll_ne : ∀ (ws : List (Nat × HO)) (h : Hp) (id : Nat), ¬ id ∈ ws.map (·.1) → (setAll h ws)[id]? = h[id]?
  | [], _, _, _ => rfl
  | (j, o) :: rest, h, id, hn => by
    simp only [List.map_cons, List.mem_cons, not_or] at hn
    rw [setAll, setAll_ne rest _ id hn.2, List.getElem?_set_ne (fun e => hn.1 e.symm)]

theorem setAll_congr : ∀ (ws : List (Nat × HO)) (h h' : Hp) (id : Nat), h[id]? = h'[id]? → (setAll h ws)[id]? = (setAll h' ws)[id]?
  | [], _, _, _, e => e
  | (j, o) :: rest, h, h', id, e => by
    refine setAll_congr rest _ _ id ?_
    by_cases hj : j = id
    · subst hj
      rw [List.getElem?_set, List.getElem?_set]
      simp only [if_true]
      have : (j < h.length) ↔ (j < h'.length) := by
        constructor
        · intro hl; rw [List.getElem?_eq_getElem hl] at e; exact (List.getElem?_eq_some_iff.1 e.symm).1
        · intro hl; rw [List.getElem?_eq_getElem hl] at e; exact (List.getElem?_eq_some_iff.1 e).1
      by_cases hl : j < h.length
      · rw [if_pos hl, if_pos (this.1 hl)]
      · rw [if_neg hl, if_neg (fun q => hl (this.2 q))]
    · rw [List.getElem?_set_ne hj, List.getElem?_set_ne hj]; exact e

section
variable (N : Nat) (ops : Array Oper) (e0 : Env) (h0 : Hp) (r : Nat → ER)

def envF (S : Nat → Bool) : Nat → Env
  | 0 => e0
  | n + 1 =>
    match ops[n]? with
    | some o => if S n then putE N (envF S n) o.dst (r n).x else envF S n
    | none => envF S n

def envT (n : Nat) : Env := envF N ops e0 r (fun _ => true) n

def hpT : Nat → Hp
  | 0 => h0
  | n + 1 => setAll (hpT n ++ (r n).ns) (r n).ws

def allT : Nat → Hp
  | 0 => h0
  | n + 1 => allT n ++ (r n).ns

def hpF (base : Hp) (S : Nat → Bool) : Nat → Hp
  | 0 => base
  | n + 1 => if S n then setAll (hpF base S n) (r n).ws else hpF base S n

def nwT (i : Nat) : List (List Nat) := (List.range i).map fun j => newIds (hpT h0 r j).length (r j)

def dstAt (ops : Array Oper) (j : Nat) : Option Tmp := (ops[j]?).bind (·.dst)

def wrote (j id : Nat) : Prop := id ∈ (r j).ws.map (·.1)

end

section
variable {N : Nat} {ops : Array Oper} {e0 : Env} {h0 : Hp} {r : Nat → ER}

theorem envF_congr {S S' : Nat → Bool} {t : Nat} : ∀ n, (∀ j, j < n → dstAt ops j = some t → S j = S' j) → envF N ops e0 r S n t = envF N ops e0 r S' n t := by
  intro n
  induction n with
  | zero => intro _; rfl
  | succ n ih =>
    intro h
    have ih := ih (fun j hj => h j (by omega))
    simp only [envF]
    cases ho : ops[n]? with
    | none => exact ih
    | some o =>
      simp only
      by_cases hd : o.dst = some t
      · have hS := h n (by omega) (by simp [dstAt, ho, hd])
        rw [hS]
        cases S' n with
        | true => simp [putE, hd, upd]
        | false => simpa using ih
      · have e1 : ∀ (e : Env) x, putE N e o.dst x t = e t := fun e x => by
          cases hdd : o.dst with
          | none => rfl
          | some d => simp only [putE]; exact upd_ne _ _ _ _ (fun q => hd (by rw [hdd, q]))
        have e2 : ∀ b : Bool, ∀ e : Env, (if b = true then putE N e o.dst (r n).x else e) t = e t := fun b e => by cases b <;> simp [e1]
        rw [e2, e2]
        exact ih

theorem envF_later {S : Nat → Bool} {t : Nat} {m : Nat} : ∀ n, m ≤ n → (∀ j, m ≤ j → j < n → dstAt ops j = some t → S j = false) → envF N ops e0 r S n t = envF N ops e0 r S m t := by
  intro n
  induction n with
  | zero => intro hm _; have : m = 0 := by omega
            subst this; rfl
  | succ n ih =>
    intro hm h
    by_cases hmn : m = n + 1
    · subst hmn; rfl
    · rw [← ih (by omega) (fun j h1 h2 => h j h1 (by omega))]
      simp only [envF]
      cases ho : ops[n]? with
      | none => rfl
      | some o =>
        simp only
        by_cases hd : o.dst = some t
        · have hS := h n (by omega) (by omega) (by simp [dstAt, ho, hd])
          simp [hS]
        · cases S n with
          | false => simp
          | true =>
            simp only [if_true]
            cases hdd : o.dst with
            | none => rfl
            | some d => simp only [putE]; exact upd_ne _ _ _ _ (fun q => hd (by rw [hdd, q]))

theorem envF_lt {i n : Nat} (h : i ≤ n) : envF N ops e0 r (fun j => decide (j < i)) n = envT N ops e0 r i := by
  funext t
  rw [envF_later n h (fun j h1 _ _ => by simp; omega)]
  exact envF_congr i (fun j hj _ => by simp [hj])

theorem hpF_length {base : Hp} {S : Nat → Bool} : ∀ n, (hpF r base S n).length = base.length := by
  intro n
  induction n with
  | zero => rfl
  | succ n ih => simp only [hpF]; split <;> simp [setAll_length, ih]

theorem hpF_congr {base : Hp} {S S' : Nat → Bool} {id : Nat} : ∀ n, (∀ j, j < n → wrote r j id → S j = S' j) → (hpF r base S n)[id]? = (hpF r base S' n)[id]? := by
  intro n
  induction n with
  | zero => intro _; rfl
  | succ n ih =>
    intro h
    have ih := ih (fun j hj => h j (by omega))
    simp only [hpF]
    by_cases hw : wrote r n id
    · rw [h n (by omega) hw]
      cases S' n with
      | true => simpa using setAll_congr _ _ _ _ ih
      | false => simpa using ih
    · have e : ∀ (b : Bool) (q : Hp), (if b = true then setAll q (r n).ws else q)[id]? = q[id]? := fun b q => by cases b <;> simp [setAll_ne _ _ _ hw]
      rw [e, e]
      exact ih

theorem hpF_later {base : Hp} {S : Nat → Bool} {id m : Nat} : ∀ n, m ≤ n → (∀ j, m ≤ j → j < n → wrote r j id → S j = false) → (hpF r base S n)[id]? = (hpF r base S m)[id]? := by
  intro n
  induction n with
  | zero => intro hm _; have : m = 0 := by omega
            subst this; rfl
  | succ n ih =>
    intro hm h
    by_cases hmn : m = n + 1
    · subst hmn; rfl
    · rw [← ih (by omega) (fun j h1 h2 => h j h1 (by omega))]
      simp only [hpF]
      by_cases hw : wrote r n id
      · rw [h n (by omega) (by omega) hw]; rfl
      · split
        · exact setAll_ne _ _ _ hw
        · rfl

theorem hpT_length : ∀ n, (hpT h0 r n).length = (allT h0 r n).length := by
  intro n
  induction n with
  | zero => rfl
  | succ n ih => simp [hpT, allT, setAll_length, ih]

theorem allT_mono {m : Nat} : ∀ n, m ≤ n → (allT h0 r m).length ≤ (allT h0 r n).length ∧ ∀ id, id < (allT h0 r m).length → (allT h0 r n)[id]? = (allT h0 r m)[id]? := by
  intro n
  induction n with
  | zero => intro hm; have : m = 0 := by omega
            subst this; exact ⟨Nat.le_refl _, fun _ _ => rfl⟩
  | succ n ih =>
    intro hm
    by_cases hmn : m = n + 1
    · subst hmn; exact ⟨Nat.le_refl _, fun _ _ => rfl⟩
    · obtain ⟨h1, h2⟩ := ih (by omega)
      refine ⟨by simp [allT]; omega, fun id hid => ?_⟩
      rw [allT, List.getElem?_append_left (by omega), h2 id hid]

theorem allT_new {i n : Nat} (hi : i < n) (k : Nat) (hk : k < (r i).ns.length) : (allT h0 r n)[(allT h0 r i).length + k]? = some ((r i).ns[k]) := by
  rw [(allT_mono n (by omega : i + 1 ≤ n)).2 _ (by simp [allT]; omega), allT, List.getElem?_append_right (by omega)]
  simp [hk]

/-- The text's heap, read off the heap in which all that is made stands from the beginning. -/
theorem hpT_get {n : Nat} (hw : ∀ j, j < n → ∀ id, wrote r j id → id < (allT h0 r j).length) : ∀ i, i ≤ n → ∀ id, id < (allT h0 r i).length → (hpT h0 r i)[id]? = (hpF r (allT h0 r n) (fun _ => true) i)[id]? := by
  intro i
  induction i with
  | zero => intro hi id hid; simp only [hpT, hpF]; exact ((allT_mono n hi).2 id hid).symm
  | succ i ih =>
    intro hi id hid
    simp only [hpT, hpF, if_true]
    refine setAll_congr _ _ _ _ ?_
    by_cases hl : id < (allT h0 r i).length
    · rw [List.getElem?_append_left (by rw [hpT_length]; exact hl)]
      exact ih (by omega) id hl
    · have hno : ∀ j, 0 ≤ j → j < i → wrote r j id → true = false := fun j _ hj hwr => by
        have h1 := hw j (by omega) id hwr
        have h2 := (allT_mono (h0 := h0) (r := r) i (by omega : j ≤ i)).1
        omega
      rw [hpF_later i (Nat.zero_le _) hno]
      simp only [hpF]
      rw [(allT_mono n hi).2 id hid, allT, List.getElem?_append_right (by rw [hpT_length]; omega), List.getElem?_append_right (by omega), hpT_length]

theorem hpF_lt {base : Hp} {i n : Nat} (h : i ≤ n) (id : Nat) : (hpF r base (fun j => decide (j < i)) n)[id]? = (hpF r base (fun _ => true) i)[id]? := by
  rw [hpF_later n h (fun j h1 _ _ => by simp; omega)]
  exact hpF_congr i (fun j hj _ => by simp [hj])

end

section
variable {X : PG} {C : Cx} {ops : Array Oper} {A W : List (List Nat)} {e0 : Env} {h0 : Hp}

def maskAt (ops : Array Oper) (A W : List (List Nat)) (h0 : Hp) (r : Nat → ER) (i : Nat) : List Nat := dmask (unordAt A ops.size i) i W (nwT h0 r i)

/-- What the plan says of its i-th operation. -/
def Valid (X : PG) (C : Cx) (ops : Array Oper) (A W : List (List Nat)) (e0 : Env) (h0 : Hp) (r : Nat → ER) (i : Nat) : Prop :=
  ∃ o, ops[i]? = some o ∧ ((wantH (envT C.N ops e0 r i) ops o = some false ∧ r i = { x := .tup [] }) ∨
    (wantH (envT C.N ops e0 r i) ops o = some true ∧ Eff X (C.own.contains o.pos) (envT C.N ops e0 r i) (mask (maskAt ops A W h0 r i) (hpT h0 r i)) (hpT h0 r i).length o.op (r i) ∧
      ∀ w ∈ (r i).ws, (W.getD i []).contains w.1 = true ∧ liveB (mask (maskAt ops A W h0 r i) (hpT h0 r i)) w.1 = true))

theorem envT_agree {N : Nat} {r r' : Nat → ER} : ∀ i, (∀ j, j < i → r j = r' j) → envT N ops e0 r i = envT N ops e0 r' i := by
  intro i
  induction i with
  | zero => intro _; rfl
  | succ i ih =>
    intro h
    have := ih (fun j hj => h j (by omega))
    simp only [envT, envF] at this ⊢
    rw [this, h i (by omega)]

theorem hpT_agree {r r' : Nat → ER} : ∀ i, (∀ j, j < i → r j = r' j) → hpT h0 r i = hpT h0 r' i := by
  intro i
  induction i with
  | zero => intro _; rfl
  | succ i ih => intro h; simp only [hpT]; rw [ih (fun j hj => h j (by omega)), h i (by omega)]

theorem nwT_agree {r r' : Nat → ER} (i : Nat) (h : ∀ j, j < i → r j = r' j) : nwT h0 r i = nwT h0 r' i := by
  unfold nwT
  refine List.map_congr_left fun j hj => ?_
  have hj : j < i := by simpa using hj
  rw [hpT_agree j (fun k hk => h k (by omega)), h j hj]

theorem Valid.agree {r r' : Nat → ER} {i : Nat} (h : ∀ j, j ≤ i → r j = r' j) (hv : Valid X C ops A W e0 h0 r i) : Valid X C ops A W e0 h0 r' i := by
  have hlt : ∀ j, j < i → r j = r' j := fun j hj => h j (by omega)
  unfold Valid maskAt at hv ⊢
  rw [← envT_agree i hlt, ← hpT_agree i hlt, ← nwT_agree i hlt, ← h i (Nat.le_refl _)]
  exact hv

theorem opsD_plan {Q : Env → Hp → Prop} : ∀ (rest : List Oper) (i : Nat) (r0 : Nat → ER), ops.toList.drop i = rest → i ≤ ops.size → (∀ j, j < i → Valid X C ops A W e0 h0 r0 j) →
    opsD X C ops A W Q rest i (nwT h0 r0 i) (envT C.N ops e0 r0 i) (hpT h0 r0 i) → ∃ r, (∀ j, j < ops.size → Valid X C ops A W e0 h0 r j) ∧ Q (envT C.N ops e0 r ops.size) (hpT h0 r ops.size) := by
  intro rest
  induction rest with
  | nil =>
    intro i r0 hd hi hv hq
    have : i = ops.size := by
      have := congrArg List.length hd
      simp at this
      omega
    subst this
    exact ⟨r0, hv, hq⟩
  | cons o rest ih =>
    intro i r0 hd hi hv hq
    have hlt : i < ops.size := by
      have := congrArg List.length hd
      simp at this
      omega
    have hget : ops[i]? = some o := by
      have := congrArg (·[0]?) hd
      simpa using this
    have hrest : ops.toList.drop (i + 1) = rest := by
      have := congrArg (List.drop 1) hd
      simpa [List.drop_drop] using this
    have step : ∀ (ri : ER), Valid X C ops A W e0 h0 (fun j => if j = i then ri else r0 j) i → opsD X C ops A W Q rest (i + 1) (nwT h0 r0 i ++ [newIds (hpT h0 r0 i).length ri]) (putE C.N (envT C.N ops e0 r0 i) o.dst ri.x) (setAll (hpT h0 r0 i ++ ri.ns) ri.ws) →
        ∃ r, (∀ j, j < ops.size → Valid X C ops A W e0 h0 r j) ∧ Q (envT C.N ops e0 r ops.size) (hpT h0 r ops.size) := fun ri hvi hop => by
      have agr : ∀ j, j < i → (fun j => if j = i then ri else r0 j) j = r0 j := fun j hj => if_neg (by omega)
      refine ih (i + 1) (fun j => if j = i then ri else r0 j) hrest hlt (fun j hj => ?_) ?_
      · by_cases hji : j = i
        · subst hji; exact hvi
        · exact (hv j (by omega)).agree (fun k hk => (agr k (by omega)).symm)
      · have e1 : nwT h0 (fun j => if j = i then ri else r0 j) (i + 1) = nwT h0 r0 i ++ [newIds (hpT h0 r0 i).length ri] := by
          rw [← nwT_agree (r := fun j => if j = i then ri else r0 j) i agr, ← hpT_agree (r := fun j => if j = i then ri else r0 j) i agr]
          simp [nwT, List.range_succ]
        have e2 : envT C.N ops e0 (fun j => if j = i then ri else r0 j) (i + 1) = putE C.N (envT C.N ops e0 r0 i) o.dst ri.x := by
          rw [← envT_agree (r := fun j => if j = i then ri else r0 j) i agr]
          simp [envT, envF, hget]
        have e3 : hpT h0 (fun j => if j = i then ri else r0 j) (i + 1) = setAll (hpT h0 r0 i ++ ri.ns) ri.ws := by
          rw [← hpT_agree (r := fun j => if j = i then ri else r0 j) i agr]
          simp [hpT]
        rw [e1, e2, e3]
        exact hop
    have agr : ∀ (ri : ER) j, j < i → (fun j => if j = i then ri else r0 j) j = r0 j := fun ri j hj => if_neg (by omega)
    simp only [opsD] at hq
    split at hq
    · rename_i hw
      obtain ⟨ri, h1, h2, h3⟩ := stepD_eff hq
      refine step ri ⟨o, hget, .inr ?_⟩ h3
      unfold maskAt
      rw [envT_agree i (agr ri), hpT_agree i (agr ri), nwT_agree i (agr ri)]
      simp only [if_true]
      refine ⟨hw, h1, fun w hwm => ?_⟩
      have := List.all_eq_true.1 h2 w hwm
      simpa only [Bool.and_eq_true] using this
    · rename_i hw
      refine step { x := .tup [] } ⟨o, hget, .inl ?_⟩ ?_
      · rw [envT_agree i (agr _)]
        exact ⟨hw, by simp⟩
      · simpa [newIds, setAll] using hq
    · exact hq.elim

end
end Go.HL

