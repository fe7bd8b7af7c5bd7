/-
  HL, part X: lists that are built by append.
-/
import Derived.Test.YtonhbeapffiibaaHlW
namespace Go.HL

/-- A list of the call's own, built by append: nil as yet, or a row. -/
def OwnAt (h : Hp) (x : HV) (t : TypeId) (es : List (List HV)) : Prop := (x = .sl true [] ∧ es = []) ∨ ∃ id, x = .ow id 0 es.length ∧ h[id]? = some (.row t es)

theorem OwnAt.nil {h : Hp} {t : TypeId} : OwnAt h (.sl true []) t [] := .inl ⟨rfl, rfl⟩

theorem OwnAt.append {P : Program} {h : Hp} {T t : TypeId} {k bt : Nat} {z x y : HV} {es ys : List (List HV)} (ho : OwnAt h x t es) (he : elemH P T = some t) (hk : szH P t = some k) (hz : zeroH P t = some z) (hb : bytesH P t = some bt)
    (h1 : 0 < bt) (h2 : z.cells.length = k) (h3 : z.cells.all HV.one = true) (hy : elemsH h y = some ys) (hys : ∀ cs ∈ ys, cs.length = k ∧ cs.all HV.one = true) (hlen : (es.length + ys.length) * bt ≤ 140737488355328) :
    ∃ r, appendH P h h.length T x y = some r ∧ OwnAt (setAll (h ++ r.ns) r.ws) r.x t (es ++ ys) ∧ h.length ≤ (setAll (h ++ r.ns) r.ws).length ∧
      ∀ (j : Nat) o, h[j]? = some o → (∀ l, x ≠ .ow j 0 l) → (setAll (h ++ r.ns) r.ws)[j]? = some o := by
  unfold appendH
  simp only [he, hk, hz, hb, hy]
  rw [if_pos ⟨h1, h2, h3, hys⟩]
  rcases ho with ⟨rfl, rfl⟩ | ⟨id, rfl, hid⟩
  · simp only
    rw [if_pos (by simpa using hlen)]
    refine ⟨_, rfl, .inr ⟨h.length, by simp, by simp [setAll]⟩, by simp [setAll], fun j o hj _ => ?_⟩
    simp only [setAll]
    rw [List.getElem?_append_left (List.getElem?_eq_some_iff.1 hj).1]
    exact hj
  · have hlt := (List.getElem?_eq_some_iff.1 hid).1
    simp only [hid]
    rw [if_pos ⟨trivial, trivial, hlen⟩]
    refine ⟨_, rfl, .inr ⟨h.length, by simp, ?_⟩, by simp [setAll], fun j o hj hx => ?_⟩
    · simp only [setAll]
      rw [List.getElem?_set_ne (by omega)]
      simp
    · have hne : id ≠ j := fun e => hx es.length (by rw [e])
      simp only [setAll]
      rw [List.getElem?_set_ne hne, List.getElem?_append_left (List.getElem?_eq_some_iff.1 hj).1]
      exact hj

/-- Read as immutable data. -/
theorem OwnAt.read {h : Hp} {x : HV} {t : TypeId} {es : List (List HV)} (ho : OwnAt h x t es) (hf : HV.freeLL es = true) : ∃ f, rdV h 1 x = some (.sl f es) := by
  rcases ho with ⟨rfl, rfl⟩ | ⟨id, rfl, hid⟩
  · exact ⟨true, by simp [rdV, rdLL]⟩
  · refine ⟨false, ?_⟩
    simp only [rdV, hid, Nat.zero_add, Nat.le_refl, if_true, List.drop_zero, List.take_length]
    rw [rdLL_free 0 es hf]
    rfl

theorem optE_any {N : Nat} {e : Env} {h : Hp} {d : Option Tmp} {r : ER} : optE N e h d (some r) = some (putE N e d r.x, setAll (h ++ r.ns) r.ws) := rfl
attribute [go_sem] if_pos if_neg and_self and_true true_and List.all_cons List.all_nil List.replicate_succ List.replicate_zero List.flatten_cons List.flatten_nil Nat.zero_mul Nat.one_mul List.drop_nil List.take_nil optE_any List.getElem?_toArray beq_true beq_false Bool.not_true Bool.not_false

end Go.HL

