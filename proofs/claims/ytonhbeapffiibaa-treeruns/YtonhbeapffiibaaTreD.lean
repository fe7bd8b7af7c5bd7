/-
  Chapter 16: package tree: nodes under construction; grow.
-/
import Derived.Test.YtonhbeapffiibaaTreC
namespace Go.Proofs.Ytonhbeapffiibaa
open Go.HL

/-- Where a node lies: its row, the map of its states, the map of its children's states. -/
structure Pl where
  id : Nat
  sid : Nat
  cid : Nat
deriving Inhabited

def nodeRow (name : Int) (up : HV) (sid cid : Nat) (gone : Bool) : HO := .row 70 [[.int .i64 name, .int .i64 0, .sl true [], up, .mp sid, .mp cid, .bool gone]]

/-- A node. -/
def NodeAt (h : Hp) (x : Pl) (name : Int) (up : HV) (p c : Int → Bool) (gone : Bool) : Prop := h[x.id]? = some (nodeRow name up x.sid x.cid gone) ∧ SetAt h x.sid p ∧ SetAt h x.cid c

/-- Everything stays but lists of pointers. -/
def Fr (h h' : Hp) : Prop := h.length ≤ h'.length ∧ ∀ (j : Nat) (o : HO), h[j]? = some o → (∀ es, o ≠ .row 66 es) → h'[j]? = some o

theorem Fr.refl (h : Hp) : Fr h h := ⟨Nat.le_refl _, fun _ _ h _ => h⟩
theorem Fr.trans {a b c : Hp} (h1 : Fr a b) (h2 : Fr b c) : Fr a c := ⟨Nat.le_trans h1.1 h2.1, fun j o h h' => h2.2 j o (h1.2 j o h h') h'⟩
theorem Fr.pre {a b : Hp} (h : Pre a b) : Fr a b := ⟨h.len, fun j o ho _ => by rw [h.at (List.getElem?_eq_some_iff.1 ho).1]; exact ho⟩
theorem Fr.setNew {a b : Hp} (h : Fr a b) {i : Nat} (hi : a.length ≤ i) (o : HO) : Fr a (b.set i o) := ⟨by simpa using h.1, fun j o' ho hn => by
  have := (List.getElem?_eq_some_iff.1 ho).1
  rw [List.getElem?_set_ne (by omega)]; exact h.2 j o' ho hn⟩
theorem Fr.app {a b : Hp} (h : Fr a b) (t : Hp) : Fr a (b ++ t) := h.trans (.pre ⟨t, rfl⟩)

theorem SetAt.fr {h h' : Hp} {id : Nat} {p : Int → Bool} (hs : SetAt h id p) (hf : Fr h h') : SetAt h' id p := by
  obtain ⟨kvs, clock, h1, h2⟩ := hs
  exact ⟨kvs, clock, hf.2 _ _ h1 (fun es e => by cases e), h2⟩
theorem NodeAt.fr {h h' : Hp} {x : Pl} {name : Int} {up : HV} {p c : Int → Bool} {gone : Bool} (hn : NodeAt h x name up p c gone) (hf : Fr h h') : NodeAt h' x name up p c gone :=
  ⟨hf.2 _ _ hn.1 (fun es e => by simp only [nodeRow] at e; injection e with e; cases e), hn.2.1.fr hf, hn.2.2.fr hf⟩

def eps (l : List Pl) : List (List HV) := l.map fun x => [.ep x.id 0 0]
theorem eps_length (l : List Pl) : (eps l).length = l.length := by simp [eps]
theorem eps_nth {l : List Pl} {k : Nat} (h : k < l.length) : (eps l)[k]? = some [.ep (nth l k).id 0 0] := nth_map (fun x : Pl => [HV.ep x.id 0 0]) h
theorem eps_append (a b : List Pl) : eps a ++ eps b = eps (a ++ b) := by simp [eps]
attribute [go_sem] eps_length eps_nth

set_option maxRecDepth 8000 in
theorem ptr_append {h : Hp} {x y : HV} {l ys : List Pl} (hx : OwnAt h x 66 (eps l)) (hy : elemsH h y = some (eps ys)) (hl : l.length + ys.length ≤ 1000000) :
    ∃ r, appendH pg.P h h.length 62 x y = some r ∧ OwnAt (setAll (h ++ r.ns) r.ws) r.x 66 (eps (l ++ ys)) ∧ Fr h (setAll (h ++ r.ns) r.ws) ∧ (∀ id n, r.x = .ow id 0 n → id = h.length) ∧
      ∀ (j : Nat) o, h[j]? = some o → (∀ l, x ≠ .ow j 0 l) → (setAll (h ++ r.ns) r.ws)[j]? = some o := by
  obtain ⟨r, h1, h2, h3, h4⟩ := hx.append (P := pg.P) (T := 62) (y := y) el62 sz66 ze66 by66 (by decide) rfl rfl hy (fun cs hc => by
    simp only [eps, List.mem_map] at hc; obtain ⟨z, _, rfl⟩ := hc; exact ⟨rfl, rfl⟩) (by rw [eps_length, eps_length]; omega)
  refine ⟨r, h1, by rw [← eps_append]; exact h2, ⟨by omega, fun j o ho hn => h4 j o ho fun l e => ?_⟩, fun id n hid => ?_, h4⟩
  · rcases hx with ⟨e2, _⟩ | ⟨id, e2, e3⟩
    · rw [e2] at e; cases e
    · rw [e2] at e; injection e with e _ _; subst e
      rw [ho] at e3; injection e3 with e3
      exact hn _ e3
  · have e := h1
    unfold appendH at e
    simp only [el62, sz66, ze66, by66, hy] at e
    rw [if_pos ⟨by decide, by trivial, by trivial, fun cs hc => by simp only [eps, List.mem_map] at hc; obtain ⟨z, _, rfl⟩ := hc; exact ⟨rfl, rfl⟩⟩] at e
    rcases hx with ⟨rfl, _⟩ | ⟨j, rfl, hj⟩
    · simp only at e
      rw [if_pos (by rw [eps_length]; omega)] at e
      injection e with e; subst e; simp at hid; exact hid.1.symm
    · simp only [hj] at e
      rw [if_pos ⟨by trivial, by trivial, by rw [eps_length, eps_length]; omega⟩] at e
      injection e with e; subst e; simp at hid; exact hid.1.symm

/-- The pointer to a node's parent. -/
def upV (L : List Pl) (par : Int) : HV := if par < 0 then .nul (.pointer none) else .ep (nth L par.toNat).id 0 0

theorem upV_app {L M : List Pl} {par : Int} (h : par < L.length) : upV (L ++ M) par = upV L par := by
  unfold upV
  split
  · rfl
  · rename_i hn
    have : par.toNat < L.length := by omega
    rw [nth_eq (by simp; omega), nth_eq this, List.getElem_append_left this]

def none' : Int → Bool := fun _ => false

/-- Two places have nothing in common. -/
def Apart (x y : Pl) : Prop := x.id ≠ y.id ∧ x.sid ≠ y.sid ∧ x.sid ≠ y.cid ∧ x.cid ≠ y.sid ∧ x.cid ≠ y.cid

def Dist (L : List Pl) : Prop := L.Pairwise Apart ∧ ∀ x ∈ L, x.sid ≠ x.cid

/-- What grow has made of the first n nodes. -/
structure Grown (b : Bu) (t : List Nd) (n : Nat) (a : Int) (h0 h : Hp) (Lo Ln : List Pl) : Prop where
  lo : Lo.length = n
  ln : Ln.length = n
  old : ∀ j, j < n → NodeAt h (nth Lo j) (nth t j).name (upV Lo (nth t j).par) (hits b (nth t j).set a false) none' false
  new : ∀ j, j < n → NodeAt h (nth Ln j) 0 (.ep (nth Lo j).id 0 0) (hits b (nth t j).set a true) none' false
  diff : Dist (Lo ++ Ln)
  big : ∀ x ∈ Lo ++ Ln, h0.length ≤ x.id ∧ h0.length ≤ x.sid ∧ h0.length ≤ x.cid

theorem NodeAt.lt {h : Hp} {x : Pl} {name : Int} {up : HV} {p c : Int → Bool} {gone : Bool} (hn : NodeAt h x name up p c gone) : x.id < h.length ∧ x.sid < h.length ∧ x.cid < h.length :=
  ⟨(List.getElem?_eq_some_iff.1 hn.1).1, hn.2.1.lt, hn.2.2.lt⟩

theorem Grown.lt {b : Bu} {t : List Nd} {n : Nat} {a : Int} {h0 h : Hp} {Lo Ln : List Pl} (hG : Grown b t n a h0 h Lo Ln) : ∀ x ∈ Lo ++ Ln, x.id < h.length ∧ x.sid < h.length ∧ x.cid < h.length := fun x hx => by
  rcases List.mem_append.1 hx with hx | hx
  · obtain ⟨j, hj, rfl⟩ := List.getElem_of_mem hx
    have := (hG.old j (by rw [← hG.lo]; exact hj)).lt
    rwa [nth_eq hj] at this
  · obtain ⟨j, hj, rfl⟩ := List.getElem_of_mem hx
    have := (hG.new j (by rw [← hG.ln]; exact hj)).lt
    rwa [nth_eq hj] at this

theorem nth_left {α : Type} [Inhabited α] {l m : List α} {k : Nat} (h : k < l.length) : nth (l ++ m) k = nth l k := by
  rw [nth_eq (by simp; omega), nth_eq h, List.getElem_append_left h]
theorem nth_last {α : Type} [Inhabited α] {l : List α} {x : α} {k : Nat} (h : k = l.length) : nth (l ++ [x]) k = x := by
  subst h
  rw [nth_eq (by simp)]; simp

theorem Grown.more {b : Bu} {t : List Nd} {i : Nat} {a : Int} {h0 h H : Hp} {Lo Ln : List Pl} {P Q : Pl} (hG : Grown b t i a h0 h Lo Ln) (hf : Fr h H) (hpar : ∀ j, j ≤ i → (nth t j).par < j)
    (hP : NodeAt H P (nth t i).name (upV Lo (nth t i).par) (hits b (nth t i).set a false) none' false) (hQ : NodeAt H Q 0 (.ep P.id 0 0) (hits b (nth t i).set a true) none' false)
    (hP1 : h.length ≤ P.id ∧ h.length ≤ P.sid ∧ h.length ≤ P.cid) (hQ1 : h.length ≤ Q.id ∧ h.length ≤ Q.sid ∧ h.length ≤ Q.cid) (hPQ : Apart P Q) (hPP : P.sid ≠ P.cid) (hQQ : Q.sid ≠ Q.cid) (hl : h0.length ≤ h.length) : Grown b t (i + 1) a h0 H (Lo ++ [P]) (Ln ++ [Q]) := by
  have hlt := hG.lt
  have hlo := hG.lo
  have hln := hG.ln
  refine ⟨by simp [hlo], by simp [hln], fun j hj => ?_, fun j hj => ?_, ⟨?_, fun x hx => ?_⟩, fun x hx => ?_⟩
  · have := hpar j (by omega)
    rw [upV_app (by omega)]
    by_cases e : j = i
    · subst e; rw [nth_last hlo.symm]; exact hP
    · rw [nth_left (by omega)]; exact (hG.old j (by omega)).fr hf
  · by_cases e : j = i
    · subst e; rw [nth_last hlo.symm, nth_last hln.symm]; exact hQ
    · rw [nth_left (by omega), nth_left (by omega)]; exact (hG.new j (by omega)).fr hf
  · have hd := hG.diff.1
    rw [List.pairwise_append] at hd
    have hap : ∀ x ∈ Lo ++ Ln, ∀ y, h.length ≤ y.id ∧ h.length ≤ y.sid ∧ h.length ≤ y.cid → Apart x y := fun x hx y hy => by
      have := hlt x hx
      unfold Apart; omega
    have hap' : ∀ x ∈ Lo ++ Ln, ∀ y, h.length ≤ y.id ∧ h.length ≤ y.sid ∧ h.length ≤ y.cid → Apart y x := fun x hx y hy => by
      have := hlt x hx
      unfold Apart; omega
    rw [List.pairwise_append, List.pairwise_append, List.pairwise_append]
    refine ⟨⟨hd.1, by simp, fun x hx y hy => ?_⟩, ⟨hd.2.1, by simp, fun x hx y hy => ?_⟩, fun x hx y hy => ?_⟩
    · simp at hy; subst hy; exact hap x (by simp [hx]) _ hP1
    · simp at hy; subst hy; exact hap x (by simp [hx]) _ hQ1
    · rcases List.mem_append.1 hx with hx | hx <;> rcases List.mem_append.1 hy with hy | hy
      · exact hd.2.2 x hx y hy
      · simp at hy; subst hy; exact hap x (by simp [hx]) _ hQ1
      · simp at hx; subst hx; exact hap' y (by simp [hy]) _ hP1
      · simp at hx hy; subst hx; subst hy; exact hPQ
  · have hd := hG.diff.2
    simp only [List.mem_append, List.mem_singleton] at hx
    rcases hx with (hx | rfl) | (hx | rfl)
    · exact hd x (by simp [hx])
    · exact hPP
    · exact hd x (by simp [hx])
    · exact hQQ
  · have hb := hG.big
    simp only [List.mem_append, List.mem_singleton] at hx
    rcases hx with (hx | rfl) | (hx | rfl)
    · exact hb x (by simp [hx])
    · omega
    · exact hb x (by simp [hx])
    · omega

theorem joinSeq {C : Cx} {c y : Code} {Q : Exit → Env → Hp → Prop} {e : Env} {h : Hp} (J : Env → Hp → Prop) (hc : WP pg C c (seqK pg C y (fun ex e h => ex = .normal ∧ J e h)) e h) (hq : ∀ e h, J e h → Q .normal e h) : WP pg C c (seqK pg C y Q) e h := by
  refine hc.mono fun ex e h hx => ?_
  cases ex with
  | normal => exact WP.mono (show WP pg C y (fun ex e h => ex = .normal ∧ J e h) e h from hx) fun ex e h hy => by obtain ⟨rfl, hy⟩ := hy; exact hq e h hy
  | _ => have h1 := And.left hx; cases h1

theorem pre_of {h0 h H : Hp} (hp : Pre h0 h) (hl : h.length ≤ H.length) (hf : ∀ (j : Nat) (o : HO), h[j]? = some o → j < h0.length → H[j]? = some o) : Pre h0 H := by
  refine ⟨H.drop h0.length, ?_⟩
  have := hp.len
  apply List.ext_getElem?
  intro j
  by_cases hj : j < h0.length
  · rw [List.getElem?_append_left hj, hf j h0[j] (by rw [hp.at hj]; simp [hj]) hj]
    simp [hj]
  · rw [List.getElem?_append_right (by omega), List.getElem?_drop]
    congr 1
    omega

theorem Grown.fr {b : Bu} {t : List Nd} {n : Nat} {a : Int} {h0 h h' : Hp} {Lo Ln : List Pl} (hG : Grown b t n a h0 h Lo Ln) (hf : Fr h h') : Grown b t n a h0 h' Lo Ln :=
  ⟨hG.lo, hG.ln, fun j hj => (hG.old j hj).fr hf, fun j hj => (hG.new j hj).fr hf, hG.diff, hG.big⟩

theorem own_pre {h h' : Hp} {x : HV} {t : TypeId} {es : List (List HV)} (ho : OwnAt h x t es) (hp : Pre h h') : OwnAt h' x t es := by
  rcases ho with ho | ⟨id, h1, h2⟩
  · exact .inl ho
  · exact .inr ⟨id, h1, by rw [hp.at (List.getElem?_eq_some_iff.1 h2).1]; exact h2⟩
theorem own_some {h : Hp} {x : HV} {t : TypeId} {es : List (List HV)} (ho : OwnAt h x t es) (hn : 0 < es.length) : ∃ id, x = .ow id 0 es.length ∧ h[id]? = some (.row t es) := by
  rcases ho with ⟨_, rfl⟩ | ho
  · simp at hn
  · exact ho
theorem own_lt {h : Hp} {x : HV} {t : TypeId} {es : List (List HV)} (ho : OwnAt h x t es) {id n : Nat} (hx : x = .ow id 0 n) : id < h.length := by
  rcases ho with ⟨rfl, _⟩ | ⟨id', h1, h2⟩
  · cases hx
  · rw [hx] at h1; injection h1 with h1 _ _; subst h1
    exact (List.getElem?_eq_some_iff.1 h2).1

set_option maxHeartbeats 4000000 in
set_option maxRecDepth 8000 in
theorem tree_grow (b : Bu) (t : List Nd) (a : Int) (h0 : Hp) (hv : validT b t = true) (ha : 0 ≤ a ∧ a < b.letters) :
    CallsH pg 33 [.agg (buC b), .sl false (nds t), .int .i64 a] h0 (fun r h' => ∃ Lo Ln, Pre h0 h' ∧ Grown b t t.length a h0 h' Lo Ln ∧ OwnAt h' r 66 (eps (Lo ++ Ln))) := by
  obtain ⟨hvb, htl, hok⟩ := validT_iff.1 hv
  refine CallsH.of_wpN [] 62 fn33 rfl rfl ?_
  refine WP.abs (fun s => s 0 = .agg (buC b) ∧ s 1 = .sl false (nds t) ∧ s 2 = .int .i64 a) ⟨rfl, rfl, rfl⟩ ?_
  rintro s ⟨g0, g1, g2⟩
  have hb3 := (validB_iff.1 hvb).1.2.2
  repeat' (with_reducible first | refine WP.seq ?_ | refine WP.block ?_ | refine seqK_normal ?_ | (apply WP.regionE; (with_unfolding_all (simp +decide (disch := first | decide | omega) only [go_sem, *]; rfl))))
  refine WP.loop (fun s h => s 2 = .int .i64 a ∧ s 3 = .ep h0.length 0 0 ∧ s 14 = .sl false (nds t) ∧ s 15 = .int .i64 t.length ∧ ∃ i : Nat, s 16 = .int .i64 i ∧ i ≤ t.length ∧ ∃ Lo Ln, Pre h0 h ∧ h[h0.length]? = some (.row 25 [buC b]) ∧ Grown b t i a h0 h Lo Ln ∧ OwnAt h (s 7) 66 (eps Lo) ∧ OwnAt h (s 8) 66 (eps Ln) ∧ (∀ id n m, s 7 = .ow id 0 n → s 8 ≠ .ow id 0 m) ∧ (∀ id n, s 7 = .ow id 0 n → h0.length ≤ id) ∧ (∀ id n, s 8 = .ow id 0 n → h0.length ≤ id)) (fun s _ => t.length - (s 16).toInt.toNat)
    ⟨by ((simp +decide (disch := first | decide | omega) only [go_sem, *]; done)), by (rfl), by (rfl), by (rfl), 0, by simp +decide (disch := first | decide | omega) only [go_sem, *]; rfl, by omega, [], [], ⟨_, rfl⟩, by simp, ⟨rfl, rfl, by simp, by simp, ⟨by simp, by simp⟩, by simp⟩, .inl ⟨by (rfl), rfl⟩, .inl ⟨by (rfl), rfl⟩, fun id n m e => by simp [upd] at e, fun id n e => by simp [upd] at e, fun id n e => by simp [upd] at e⟩ ?_
  clear g0 g1 g2 s
  rintro s h ⟨g2, g3, g14, g15, i, g16, hi, Lo, Ln, hpre, hbox, hG, ho7, ho8, hd, hge7, hge8⟩
  have hbl : h0.length < h.length := (List.getElem?_eq_some_iff.1 hbox).1
  by_cases hlt : i < t.length
  · have hbox1 : (h ++ [HO.row 43 [ndC (nth t i)]])[h0.length]? = some (.row 25 [buC b]) := by rw [List.getElem?_append_left hbl]; exact hbox
    have hN := okN_nth.1 (hok i hlt)
    have hset : ∀ k, k < (nth t i).set.length → 0 ≤ nth (nth t i).set k ∧ nth (nth t i).set k < b.next.length := fun k hk => (okE_iff.1 (hN.2.1 k hk)).1
    repeat' (with_reducible first | refine WP.seq ?_ | refine WP.skip ?_ | refine WP.block ?_ | refine WP.exit ?_ | refine seqK_normal ?_ | refine seqK_exit ?_ | refine loopK_exit ?_ | refine blockK_here ?_ | (apply WP.regionE; (with_unfolding_all (simp +decide (disch := first | decide | omega) only [go_sem, *]; rfl))) | (apply WP.regionX; with_unfolding_all rfl; (with_unfolding_all (simp +decide (disch := first | decide | omega) only [go_sem, *]; rfl))) | (apply opsT.call; (with_unfolding_all (simp +decide (disch := first | decide | omega) only [go_sem, *]; rfl)); (focus (simp +decide (disch := first | decide | omega) only [go_sem, *]; done)); (with_unfolding_all (simp +decide (disch := first | decide | omega) only [go_sem, *]; rfl))) | (apply WP.condB; (simp +decide (disch := first | decide | omega) only [go_sem, *]; rfl); all_goals (intro hb; (first | rw [dlt_t] at hb | rw [dlt_f] at hb | rw [dle_t] at hb | rw [dle_f] at hb | rw [Bool.not_eq_true'] at hb | rw [Bool.not_eq_false'] at hb | skip))))
    · refine (tree_reached b (nth t i).set a _ hvb ha hset).mono ?_
      rintro r h2 ⟨rfl, hpre2, hs1, hs2⟩
      have hlen1 : (h ++ [HO.row 43 [ndC (nth t i)]]).length = h.length + 1 := by simp
      rw [hlen1] at hs1 hs2
      have hx2 : h2[h.length]? = some (.row 43 [ndC (nth t i)]) := by rw [hpre2.at (by simp)]; simp
      have hnp := (okN_nth.1 (hok i hlt)).1
      unfold okH at hnp
      have hlo := hG.lo
      have hpre3 : Pre h h2 := (Pre.app (.refl h) _).trans hpre2
      have hlen2 := (hs2.lt : h.length + 1 + 2 < h2.length)
      repeat' (with_reducible first | refine WP.seq ?_ | refine seqK_normal ?_ | (apply WP.regionE; (with_unfolding_all (simp +decide (disch := first | decide | omega) only [go_sem, *]; rfl))) | (apply opsT.fin; (with_unfolding_all (simp +decide (disch := first | decide | omega) only [go_sem, *]; rfl))))
      refine WP.absH (fun s' h' => s' 2 = .int .i64 a ∧ s' 3 = .ep h0.length 0 0 ∧ s' 14 = .sl false (nds t) ∧ s' 15 = .int .i64 t.length ∧ s' 16 = .int .i64 i ∧ s' 7 = s 7 ∧ s' 8 = s 8 ∧ s' 10 = .ep h.length 0 0 ∧ s' 12 = .mp (h.length + 1 + 2) ∧ s' 13 = .ep (h2.length + 1) 0 0 ∧
        h' = h2 ++ [.map [] 0] ++ [nodeRow (nth t i).name (.nul (.pointer none)) (h.length + 1 + 1) h2.length false])
        ⟨by ((simp +decide (disch := first | decide | omega) only [go_sem, *]; done)), by ((simp +decide (disch := first | decide | omega) only [go_sem, *]; done)), by ((simp +decide (disch := first | decide | omega) only [go_sem, *]; done)), by ((simp +decide (disch := first | decide | omega) only [go_sem, *]; done)), by ((simp +decide (disch := first | decide | omega) only [go_sem, *]; done)), by (rfl), by (rfl), by (rfl), by first | simp +decide (disch := first | decide | omega) only [go_sem, *]; done | (simp +decide (disch := first | decide | omega) only [go_sem, *]; simp), by first | simp +decide (disch := first | decide | omega) only [go_sem, *]; done | (simp +decide (disch := first | decide | omega) only [go_sem, *]; simp), rfl⟩ ?_
      obtain ⟨h3, hh3⟩ : ∃ h3, h3 = h2 ++ [.map [] 0] ++ [nodeRow (nth t i).name (.nul (.pointer none)) (h.length + 1 + 1) h2.length false] := ⟨_, rfl⟩
      rw [← hh3]
      have p3 : Pre h2 h3 := by rw [hh3]; exact ((Pre.refl h2).app _).app _
      have hx3 : h3[h.length]? = some (.row 43 [ndC (nth t i)]) := by rw [p3.at (by omega)]; exact hx2
      have hn3 : h3[h2.length + 1]? = some (nodeRow (nth t i).name (.nul (.pointer none)) (h.length + 1 + 1) h2.length false) := by rw [hh3]; simp
      have hc3 : SetAt h3 h2.length none' := by rw [hh3]; exact (SetAt.nil (h := h2)).app _
      have hl3 : h3.length = h2.length + 2 := by rw [hh3]; simp
      clear hh3 hx2 hbox1
      rintro s' h' ⟨k2, k3, k14, k15, k16, k7, k8, k10, k12, k13, rfl⟩
      clear g2 g3 g14 g15
      refine joinSeq (fun s' h4 => s' 2 = .int .i64 a ∧ s' 3 = .ep h0.length 0 0 ∧ s' 14 = .sl false (nds t) ∧ s' 15 = .int .i64 t.length ∧ s' 16 = .int .i64 i ∧ s' 7 = s 7 ∧ s' 8 = s 8 ∧ s' 12 = .mp (h.length + 1 + 2) ∧ s' 13 = .ep (h2.length + 1) 0 0 ∧
        Pre h2 h4 ∧ NodeAt h4 ⟨h2.length + 1, h.length + 1 + 1, h2.length⟩ (nth t i).name (upV Lo (nth t i).par) (hits b (nth t i).set a false) none' false ∧ h4.length = h2.length + 2) ?_ ?_
      · by_cases hp0 : 0 ≤ (nth t i).par
        · obtain ⟨kk, hk1, hk2⟩ := own_some ho7 (by rw [eps_length]; omega)
          have hk3 : h'[kk]? = some (.row 66 (eps Lo)) := by rw [(hpre3.trans p3).at (List.getElem?_eq_some_iff.1 hk2).1]; exact hk2
          have hk7 : s' 7 = .ow kk 0 Lo.length := by rw [k7, hk1, eps_length]
          have hlt3 : (nth t i).par.toNat < Lo.length := by omega
          unfold nodeRow at hn3
          clear k7
          repeat' (with_reducible first | refine seqK_normal ?_ | (apply WP.regionE; (with_unfolding_all (simp +decide (disch := first | decide | omega) only [go_sem, *]; rfl))) | (apply WP.condT; (focus (simp +decide (disch := first | decide | omega) only [go_sem, *]; done))))
          · refine ⟨rfl, by ((simp +decide (disch := first | decide | omega) only [go_sem, *]; done)), by ((simp +decide (disch := first | decide | omega) only [go_sem, *]; done)), by ((simp +decide (disch := first | decide | omega) only [go_sem, *]; done)), by ((simp +decide (disch := first | decide | omega) only [go_sem, *]; done)), by ((simp +decide (disch := first | decide | omega) only [go_sem, *]; done)), ?_, by ((simp +decide (disch := first | decide | omega) only [go_sem, *]; done)), by ((simp +decide (disch := first | decide | omega) only [go_sem, *]; done)), by ((simp +decide (disch := first | decide | omega) only [go_sem, *]; done)), p3.set (by omega) _, ⟨?_, ?_, ?_⟩, by simp [hl3]⟩
            · first | (simp +decide (disch := first | decide | omega) only [go_sem, *]; done) | (simp +decide (disch := first | decide | omega) only [go_sem, *]; rw [hk1, eps_length])
            · show (h'.set (h2.length + 1) _)[h2.length + 1]? = _
              rw [List.getElem?_set_self (by omega)]
              simp only [nodeRow, upV]
              rw [if_neg (by omega)]
            · exact ((hs1.fr (.pre p3))).keep (List.getElem?_set_ne (by simp; omega))
            · exact hc3.keep (List.getElem?_set_ne (by simp))
        · repeat' (with_reducible first | refine WP.skip ?_ | refine seqK_normal ?_ | (apply WP.regionE; (with_unfolding_all (simp +decide (disch := first | decide | omega) only [go_sem, *]; rfl))) | (apply WP.condF; (focus (simp +decide (disch := first | decide | omega) only [go_sem, *]; done))))
          · refine ⟨rfl, by ((simp +decide (disch := first | decide | omega) only [go_sem, *]; done)), by ((simp +decide (disch := first | decide | omega) only [go_sem, *]; done)), by ((simp +decide (disch := first | decide | omega) only [go_sem, *]; done)), by ((simp +decide (disch := first | decide | omega) only [go_sem, *]; done)), by ((simp +decide (disch := first | decide | omega) only [go_sem, *]; done)), by ((simp +decide (disch := first | decide | omega) only [go_sem, *]; done)), by ((simp +decide (disch := first | decide | omega) only [go_sem, *]; done)), by ((simp +decide (disch := first | decide | omega) only [go_sem, *]; done)), by ((simp +decide (disch := first | decide | omega) only [go_sem, *]; done)), p3, ⟨?_, hs1.fr (.pre p3), hc3⟩, hl3⟩
            have : upV Lo (nth t i).par = .nul (.pointer none) := if_pos (by omega)
            rw [this]
            exact hn3
      clear k2 k3 k14 k15 k16 k7 k8 k10 k12 k13 hx3 hn3 hc3 hl3 p3 h' s'
      rintro s' h4 ⟨k2, k3, k14, k15, k16, k7, k8, k12, k13, p4, hN4, hl4⟩
      have p5 := hpre3.trans p4
      obtain ⟨r1, hr1, ho71, hf1, hid1, hfr1⟩ := ptr_append (own_pre ho7 p5) (ys := [⟨h2.length + 1, h.length + 1 + 1, h2.length⟩]) (y := .sl true [[.ep (h2.length + 1) 0 0]]) rfl (by simp; omega)
      have ho8' : OwnAt (setAll (h4 ++ r1.ns) r1.ws) (s 8) 66 (eps Ln) := by
        rcases own_pre ho8 p5 with ho | ⟨id, q1, q2⟩
        · exact .inl ho
        · exact .inr ⟨id, q1, hfr1 _ _ q2 fun l e => hd id _ _ e q1⟩
      have hd1 : ∀ id n m, r1.x = .ow id 0 n → s 8 ≠ .ow id 0 m := fun id n m e1 e2 => by
        have := hid1 id n e1
        have := own_lt ho8 e2
        have := p5.len
        omega
      have hl4' : h4.length ≤ h2.length + 2 ∧ h2.length + 2 ≤ h4.length := by omega
      have hl5 := hf1.1
      have hpr5 : Pre h0 (setAll (h4 ++ r1.ns) r1.ws) := pre_of (hpre.trans p5) hl5 fun j o ho hj => hfr1 j o ho fun l e => by have := hge7 j l e; omega
      clear hl4
      repeat' (with_reducible first | refine WP.seq ?_ | refine seqK_normal ?_ | (apply WP.regionE; (with_unfolding_all (simp +decide (disch := first | decide | omega) only [go_sem, *]; rfl))))
      obtain ⟨h5, hh5⟩ : ∃ h5, h5 = setAll (h4 ++ r1.ns) r1.ws := ⟨_, rfl⟩
      rw [← hh5] at ho71 hf1 ho8' hpr5 hl5 ⊢
      obtain ⟨Q, hQ⟩ : ∃ Q : Pl, Q = ⟨h5.length + 1, h.length + 1 + 2, h5.length⟩ := ⟨_, rfl⟩
      obtain ⟨P, hP⟩ : ∃ P : Pl, P = ⟨h2.length + 1, h.length + 1 + 1, h2.length⟩ := ⟨_, rfl⟩
      have hQi : (h5 ++ [HO.map [] 0]).length = Q.id := by rw [hQ]; simp
      have p6 : Pre h5 (h5 ++ [HO.map [] 0] ++ [nodeRow 0 (.ep (h2.length + 1) 0 0) (h.length + 1 + 2) h5.length false]) := ((Pre.refl h5).app _).app _
      obtain ⟨r2, hr2, ho82, hf2, hid2, hfr2⟩ := ptr_append (own_pre ho8' p6) (ys := [Q]) (y := .sl true [[.ep (h5 ++ [HO.map [] 0]).length 0 0]]) (by rw [hQi]; rfl) (by have := hG.ln; simp; omega)
      unfold nodeRow at hr2 ho82 hf2 hid2 hfr2 p6
      clear hr1 hh5 hQi
      repeat' (with_reducible first | refine seqK_normal ?_ | refine blockK_normal ?_ | (apply WP.regionE; (with_unfolding_all (simp +decide (disch := first | decide | omega) only [go_sem, *]; rfl))))
      have hfA : Fr h4 h5 := hf1
      have hn6 : NodeAt (h5 ++ [HO.map [] 0] ++ [HO.row 70 [[HV.int .i64 0, .int .i64 0, .sl true [], .ep (h2.length + 1) 0 0, .mp (h.length + 1 + 2), .mp h5.length, .bool false]]]) Q 0 (.ep P.id 0 0) (hits b (nth t i).set a true) none' false := by
        rw [hQ, hP]
        refine ⟨by simp [nodeRow], ((hs2.fr (.pre p4)).fr hfA).fr (.pre p6), ?_⟩
        exact (SetAt.nil (h := h5)).app _
      have hl6 : (h5 ++ [HO.map [] 0] ++ [HO.row 70 [[HV.int .i64 0, .int .i64 0, .sl true [], .ep (h2.length + 1) 0 0, .mp (h.length + 1 + 2), .mp h5.length, .bool false]]]).length = h5.length + 2 := by simp
      have hpar : ∀ j, j ≤ i → (nth t j).par < j := fun j hj => by
        have := (okN_nth.1 (hok j (by omega))).1
        unfold okH at this; omega
      generalize h5 ++ [HO.map [] 0] ++ [HO.row 70 [[HV.int .i64 0, .int .i64 0, .sl true [], .ep (h2.length + 1) 0 0, .mp (h.length + 1 + 2), .mp h5.length, .bool false]]] = h6 at hn6 p6 ho82 hf2 hid2 hfr2 hl6 ⊢
      have hFr : Fr h (setAll (h6 ++ r2.ns) r2.ws) := (((Fr.pre p5).trans hfA).trans (.pre p6)).trans hf2
      have hG2 := hG.more hFr hpar (P := P) (Q := Q) (by rw [hP]; exact ((hN4.fr hfA).fr (.pre p6)).fr hf2) (hn6.fr hf2) (by rw [hP]; simp only; omega) (by rw [hQ]; simp only; omega) (by rw [hP, hQ]; unfold Apart; simp only; omega) (by rw [hP]; simp only; omega) (by rw [hQ]; simp only; omega) (by omega)
      refine loopK_normal ⟨by ((simp +decide (disch := first | decide | omega) only [go_sem, *]; done)), by ((simp +decide (disch := first | decide | omega) only [go_sem, *]; done)), by ((simp +decide (disch := first | decide | omega) only [go_sem, *]; done)), by ((simp +decide (disch := first | decide | omega) only [go_sem, *]; done)), i + 1, by simp +decide (disch := first | decide | omega) only [go_sem, *]; rfl, by omega, Lo ++ [P], Ln ++ [Q], ?_, ?_, hG2, ?_, ?_, ?_, ?_, ?_⟩ (by simp +decide (disch := first | decide | omega) only [go_sem, *]; omega)
      · exact pre_of (hpr5.trans p6) hf2.1 fun j o ho hj => hfr2 j o ho fun l e => by have := hge8 j l e; omega
      · exact hFr.2 _ _ hbox (fun es e => by cases e)
      · have : OwnAt (setAll (h6 ++ r2.ns) r2.ws) r1.x 66 (eps (Lo ++ [P])) := by
          rcases own_pre ho71 p6 with ho | ⟨id, q1, q2⟩
          · exact .inl (by rw [hP]; exact ho)
          · exact .inr ⟨id, by rw [hP]; exact q1, by rw [hP]; exact hfr2 _ _ q2 fun l e => hd1 id _ _ q1 e⟩
        simpa [upd] using this
      · simpa [upd] using ho82
      · intro id n m e1 e2
        simp [upd] at e1 e2
        have q1 := hid1 id n e1
        have q2 := hid2 id m e2
        have := hfA.1
        omega
      · intro id n e1
        simp [upd] at e1
        have q1 := hid1 id n e1
        omega
      · intro id n e1
        simp [upd] at e1
        have q1 := hid2 id n e1
        omega
    · omega
  · have hlo := hG.lo
    have hln := hG.ln
    obtain ⟨r1, hr1, ho71, hf1, hid1, hfr1⟩ := ptr_append ho7 ho8.elems (by omega)
    repeat' (with_reducible first | refine WP.seq ?_ | refine WP.skip ?_ | refine WP.block ?_ | refine WP.exit ?_ | refine WP.ret ?_ | refine seqK_normal ?_ | refine seqK_exit ?_ | refine loopK_exit ?_ | refine blockK_here ?_ | (apply WP.regionE; (with_unfolding_all (simp +decide (disch := first | decide | omega) only [go_sem, *]; rfl))) | (apply WP.condB; (simp +decide (disch := first | decide | omega) only [go_sem, *]; rfl); all_goals (intro hb; (first | rw [dlt_t] at hb | rw [dlt_f] at hb | rw [dle_t] at hb | rw [dle_f] at hb | rw [Bool.not_eq_true'] at hb | rw [Bool.not_eq_false'] at hb | skip))) | (apply fnPost_ret; (simp +decide (disch := first | decide | omega) only [go_sem, *]; rfl)))
    · omega
    · refine ⟨Lo, Ln, ?_, ?_, ho71⟩
      · exact pre_of hpre hf1.1 fun j o ho hj => hfr1 j o ho fun l e => by have := hge7 j l e; omega
      · have hit : i = t.length := by omega
        subst hit
        exact hG.fr hf1

end Go.Proofs.Ytonhbeapffiibaa

