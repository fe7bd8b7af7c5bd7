/-
  HL, part P: what an operation reads of a heap it reads in every heap that holds more.
-/
import Derived.Test.YthfobbfechdoaaaHlO
namespace Go.HL

/-- 'h'' holds what 'h' holds. -/
def hle (h h' : Hp) : Prop := ∀ (id : Nat) (o : HO), o.live = true → h[id]? = some o → h'[id]? = some o

theorem hle.refl (h : Hp) : hle h h := fun _ _ _ ho => ho

section
variable {X : PG} {P : Program} {h h' : Hp}

theorem loadH_mono (hl : hle h h') {t : TypeId} {x y : HV} (hs : loadH P h t x = some y) : loadH P h' t x = some y := by
  unfold loadH at hs ⊢
  split at hs
  · exact hs
  · exact hs
  · rename_i ag id i off hag
    split at hs
    · rename_i t' es ho
      simpa only [hl _ _ rfl ho] using hs
    · cases hs
  · cases hs

theorem sliceH_mono (hl : hle h h') {t : TypeId} {x y : HV} {lo hi mx : Option HV} (hs : sliceH P h t x lo hi mx = some y) : sliceH P h' t x lo hi mx = some y := by
  unfold sliceH at hs ⊢
  split at hs
  · exact hs
  · exact hs
  · split at hs
    · rename_i k t' es hk ho
      simpa only [hk, hl _ _ rfl ho] using hs
    · cases hs
  · cases hs

theorem indexAddrH_mono (hl : hle h h') {t : TypeId} {x i y : HV} (hs : indexAddrH P h t x i = some y) : indexAddrH P h' t x i = some y := by
  unfold indexAddrH at hs ⊢
  split at hs
  · split at hs
    · rename_i hn
      simp only [hn, if_true]
      split at hs
      · exact hs
      · split at hs
        · rename_i e t' es he ho
          simpa only [he, hl _ _ rfl ho] using hs
        · cases hs
      · exact hs
      · exact hs
      · cases hs
    · cases hs
  · cases hs

theorem lenH_mono (hl : hle h h') {t : TypeId} {x y : HV} (hs : lenH P h t x = some y) : lenH P h' t x = some y := by
  unfold lenH at hs ⊢
  split at hs
  · exact hs
  · exact hs
  · exact hs
  · exact hs
  · split at hs
    · rename_i k e kvs c hu ho
      simpa only [hu, hl _ _ rfl ho] using hs
    · cases hs
  · cases hs

theorem opV_mono (hl : hle h h') {ρ : Operand → HV} {o : Op} {y : HV} (hs : opV X ρ h o = some y) : opV X ρ h' o = some y := by
  unfold opV at hs ⊢
  split at hs <;> first | exact hs | skip
  · exact loadH_mono hl hs
  · exact sliceH_mono hl hs
  · exact indexAddrH_mono hl hs
  · split at hs <;> first | exact hs | skip
    · split at hs
      · exact lenH_mono hl hs
      · cases hs

theorem storeH_mono (hl : hle h h') {t : TypeId} {p z : HV} {r : ER} (hs : storeH P h t p z = some r) : storeH P h' t p z = some r := by
  unfold storeH at hs ⊢
  split at hs
  · split at hs
    · rename_i ho
      simpa only [hl _ _ rfl ho] using hs
    · cases hs
  · cases hs

theorem elemsH_mono (hl : hle h h') {x : HV} {y : List (List HV)} (hs : elemsH h x = some y) : elemsH h' x = some y := by
  unfold elemsH at hs ⊢
  split at hs
  · exact hs
  · split at hs
    · rename_i ho
      simpa only [hl _ _ rfl ho] using hs
    · cases hs
  · cases hs

theorem appendH_mono (hl : hle h h') {nid : Nat} {t : TypeId} {s y : HV} {r : ER} (hs : appendH P h nid t s y = some r) : appendH P h' nid t s y = some r := by
  unfold appendH at hs ⊢
  split at hs
  · cases hs
  · split at hs
    · rename_i k z bt ys hk hz hb hy
      simp only [hk, hz, hb, elemsH_mono hl hy]
      split at hs
      · rename_i hc
        rw [if_pos hc]
        split at hs
        · exact hs
        · exact hs
        · split at hs
          · rename_i ho
            simpa only [hl _ _ rfl ho] using hs
          · cases hs
        · cases hs
      · cases hs
    · cases hs

theorem kvsH_mono (hl : hle h h') {x : HV} {kvs : List (HV × HV × Nat)} (hs : kvsH h x = some kvs) : kvsH h' x = some kvs := by
  unfold kvsH at hs ⊢
  split at hs
  · exact hs
  · split at hs
    · rename_i ho
      simpa only [hl _ _ rfl ho] using hs
    · cases hs
  · cases hs

theorem lookupH_mono (hl : hle h h') {t : TypeId} {x k y : HV} {ok : Bool} (hs : lookupH P h t x k ok = some y) : lookupH P h' t x k ok = some y := by
  unfold lookupH at hs ⊢
  split at hs
  · rename_i kt e d kvs hm hkv
    simpa only [hm, kvsH_mono hl hkv] using hs
  · cases hs

theorem mapUpdateH_mono (hl : hle h h') {t : TypeId} {x k v : HV} {r : ER} (hs : mapUpdateH P h t x k v = some r) : mapUpdateH P h' t x k v = some r := by
  unfold mapUpdateH at hs ⊢
  split at hs
  · rename_i kt e d id hm
    split at hs
    · rename_i ho
      simpa only [hm, hl _ _ rfl ho] using hs
    · cases hs
  · cases hs

theorem deleteH_mono (hl : hle h h') {t : TypeId} {x k : HV} {r : ER} (hs : deleteH P h t x k = some r) : deleteH P h' t x k = some r := by
  unfold deleteH at hs ⊢
  split at hs
  · rename_i kt e d id hm
    split at hs
    · rename_i ho
      simpa only [hm, hl _ _ rfl ho] using hs
    · cases hs
  · rename_i kt e d hm
    simpa only [hm] using hs
  · cases hs

theorem rangeH_mono (hl : hle h h') {nid : Nat} {t : TypeId} {x : HV} {r : ER} (hs : rangeH P h nid t x = some r) : rangeH P h' nid t x = some r := by
  unfold rangeH at hs ⊢
  split at hs
  · rename_i hu; simpa only [hu] using hs
  · rename_i hu; simpa only [hu] using hs
  · rename_i hu
    split at hs
    · rename_i ho
      simpa only [hu, hl _ _ rfl ho] using hs
    · cases hs
  · cases hs

theorem nextH_mono (hl : hle h h') {it : HV} {b : Bool} {r : ER} (hs : nextH h it b = some r) : nextH h' it b = some r := by
  unfold nextH at hs ⊢
  split at hs
  · split at hs
    · rename_i ho; simpa only [hl _ _ rfl ho] using hs
    · rename_i ho; simpa only [hl _ _ rfl ho] using hs
    · cases hs
  · cases hs

theorem entryH_mono (hl : hle h h') {it y : HV} (hs : entryH h it = some y) : entryH h' it = some y := by
  unfold entryH at hs ⊢
  split at hs
  · split at hs
    · rename_i ho
      split at hs
      · rename_i hm hlast
        simpa only [hl _ _ rfl ho, hl _ _ rfl hm, hlast] using hs
      · cases hs
    · cases hs
  · cases hs

theorem opE_mono (hl : hle h h') {own : Bool} {ρ : Operand → HV} {nid : Nat} {o : Op} {r : ER} (hs : opE X own ρ h nid o = some r) : opE X own ρ h' nid o = some r := by
  have opt : ∀ (o : Op), (opV X ρ h o).map (fun x => ({ x := x } : ER)) = some r → (opV X ρ h' o).map (fun x => ({ x := x } : ER)) = some r := fun o ho => by
    obtain ⟨x, h1, rfl⟩ := Option.map_eq_some_iff.1 ho
    rw [opV_mono hl h1]; rfl
  cases o with
  | box t x => exact hs
  | alloc t => exact hs
  | store t a x => exact storeH_mono hl hs
  | buildSlice t len parts => exact hs
  | makeSlice t l c => exact hs
  | makeMap t r' => cases r' with
    | none => exact hs
    | some y => simp only [opE] at hs ⊢; exact opt _ hs
  | lookup t x k ok =>
    simp only [opE] at hs ⊢
    obtain ⟨y, h1, rfl⟩ := Option.map_eq_some_iff.1 hs
    rw [lookupH_mono hl h1]; rfl
  | mapUpdate t m k x => exact mapUpdateH_mono hl hs
  | insert t m k x => exact mapUpdateH_mono hl hs
  | range t x => exact rangeH_mono hl hs
  | next it b => exact nextH_mono hl hs
  | entry it =>
    simp only [opE] at hs ⊢
    obtain ⟨y, h1, rfl⟩ := Option.map_eq_some_iff.1 hs
    rw [entryH_mono hl h1]; rfl
  | call c =>
    simp only [opE] at hs ⊢
    split at hs
    · split at hs
      · rename_i heq; rw [if_pos heq]; exact appendH_mono hl hs
      · cases hs
    · exact deleteH_mono hl hs
    · exact opt _ hs
  | _ => simp only [opE] at hs ⊢; exact opt _ hs

end
end Go.HL
