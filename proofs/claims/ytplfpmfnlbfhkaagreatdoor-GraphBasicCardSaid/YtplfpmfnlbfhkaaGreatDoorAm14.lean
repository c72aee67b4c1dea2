/- Operations, one by one. Tenth part: maps, read and written. -/
import Derived.Test.YtplfpmfnlbfhkaaGreatDoorAm13
set_option linter.unusedVariables false
set_option linter.unusedSimpArgs false
namespace Go.Am
open Go

section
variable {P : Program} {m m' : MMap} {F F' : FMap} {g : Look} {w w' : World}

theorem run_getMap (w : World) {r : Nat} {ces : Array MapEntry} {clock : Nat} (h : w.heap[r]? = some (.map ces clock)) : (getObj r).run P w = .ok (.map ces clock) w := by
  simp [getObj, Sem.run, h]

theorem lookup_ok (hi : Inv m F g w) {t : TypeId} {mp k r : AV} {ok : Bool} {pm pk : Value} (hm : VRel m F mp pm) (hk : VRel m F k pk) (h : lookupA P g t mp k ok = some r) :
    ∃ cv, (Instr.lookup t pm pk ok).run P w = .ok cv w ∧ VRel m F r cv := by
  unfold lookupA at h
  split at h
  · rename_i kt et hu
    split at h
    · rename_i hkey
      split at h
      · rename_i es hes
        have hmap : ∃ ces : Array MapEntry, EntRel m F es ces.toList ∧ ((pm = .map none ∧ ces = #[]) ∨ ∃ b clock, pm = .map (some b) ∧ w.heap[b]? = some (.map ces clock)) := by
          split at hes
          · cases hes; cases hm; exact ⟨#[], ⟨RelL.nil, RelL.nil⟩, .inl ⟨rfl, rfl⟩⟩
          · cases hm with
            | map id loc h1 h2 =>
            split at hes
            · rename_i es' hg
              cases hes
              obtain ⟨l1, ces, clock, h3, h4, h5, h6, h7⟩ := hi.objs _ _ hg
              rw [h1] at h3; cases h3
              exact ⟨ces, ⟨h6, h7⟩, .inr ⟨_, clock, rfl, h5⟩⟩
            · cases hes
          · cases hes
        obtain ⟨ces, hent, hpm⟩ := hmap
        have tail : ∀ (fr : Option (Nat × AV)), findA k es 0 = some fr → (∀ v, fr = none → zeroA P et = some v → True) → True := fun _ _ _ => trivial
        split at h
        · rename_i i v hf
          cases h
          obtain ⟨r', h1, h2⟩ := find_ok (P := P) (w := w) hkey hk hent hf
          cases r' with
          | none => exact h2.elim
          | some p =>
            obtain ⟨j, x⟩ := p
            obtain ⟨rfl, hv⟩ := h2
            refine ⟨if ok then .tuple #[x, .bool true] else x, ?_, ?_⟩
            · rcases hpm with ⟨rfl, rfl⟩ | ⟨b, clock, rfl, hb⟩
              · simp only [Instr.lookup, Sem.run_bind, run_underlying hu, Result.andThen_ok, Sem.run_pure, keyOk_check hkey hk, h1]
              · simp only [Instr.lookup, Sem.run_bind, run_underlying hu, Result.andThen_ok, Sem.run_pure, run_getMap w hb, keyOk_check hkey hk, h1]
            · cases ok
              · exact hv
              · have hl : RelL m F [v, .bool true] [x, .bool true] := RelL.cons hv (RelL.cons (.bool _) RelL.nil)
                exact .tup _ _ hl.1 hl.2
        · rename_i hf
          obtain ⟨z, hz, rfl⟩ := map_some' h
          obtain ⟨zv, hzr, hzrel, -⟩ := zeroA_run hz
          obtain ⟨r', h1, h2⟩ := find_ok (P := P) (w := w) hkey hk hent hf
          cases r' with
          | some p => exact h2.elim
          | none =>
            refine ⟨if ok then .tuple #[zv, .bool false] else zv, ?_, ?_⟩
            · rcases hpm with ⟨rfl, rfl⟩ | ⟨b, clock, rfl, hb⟩
              · simp only [Instr.lookup, Sem.run_bind, run_underlying hu, Result.andThen_ok, Sem.run_pure, keyOk_check hkey hk, h1, hzr]
              · simp only [Instr.lookup, Sem.run_bind, run_underlying hu, Result.andThen_ok, Sem.run_pure, run_getMap w hb, keyOk_check hkey hk, h1, hzr]
            · cases ok
              · exact hzrel m F
              · have hl : RelL m F [z, .bool false] [zv, .bool false] := RelL.cons (hzrel m F) (RelL.cons (.bool _) RelL.nil)
                exact .tup _ _ hl.1 hl.2
        · cases h
      · cases h
    · cases h
  · cases h

theorem findA_some {k : AV} : ∀ {es : List (AV × AV)} {i0 i : Nat} {v : AV}, findA k es i0 = some (some (i, v)) → i0 ≤ i ∧ ∃ k', es[i - i0]? = some (k', v) ∧ keyEq k k' = some true
  | [], i0, i, v, h => by cases h
  | (k', u) :: es, i0, i, v, h => by
    simp only [findA] at h
    split at h
    · rename_i hq
      cases h
      exact ⟨Nat.le_refl _, k', by simp, hq⟩
    · obtain ⟨h1, k2, h2, h3⟩ := findA_some h
      refine ⟨by omega, k2, ?_, h3⟩
      rw [show i - i0 = (i - (i0 + 1)) + 1 by omega]
      simpa using h2
    · cases h

theorem keyEq1_bits {a b : AV} {x y : Value} (ha : VRel m F a x) (hb : VRel m F b y) (h : keyEq1 a b = some true) (n : Nat) : Instr.sameBits n y x = true := by
  unfold keyEq1 at h
  split at h
  · rename_i k a k' b
    split at h
    · rename_i hk; subst hk
      cases ha; cases hb
      have e : a = b := by simpa using h
      subst e
      cases n <;> simp [Instr.sameBits]
    · cases h
  · rename_i a b
    cases ha; cases hb
    have e : a = b := by simpa using h
    subst e
    cases n <;> simp [Instr.sameBits, bytes_beq]
  · rename_i a b
    cases ha; cases hb
    have e : a = b := by simpa using h
    subst e
    cases n <;> simp [Instr.sameBits]
  · cases h

theorem keyEqs_bits (n : Nat) : ∀ {a b : List AV} {x y : List Value}, RelL m F a x → RelL m F b y → keyEqs a b = some true → (y.zip x).all (fun (u, v) => Instr.sameBits n u v) = true ∧ y.length = x.length
  | [], [], x, y, hx, hy, _ => by rw [hx.nil_left, hy.nil_left]; simp
  | [], _ :: _, x, y, _, _, h => by cases h
  | _ :: _, [], x, y, _, _, h => by cases h
  | a :: as, b :: bs, x, y, hx, hy, h => by
    obtain ⟨u, us, rfl, h1, h2⟩ := hx.cons_left
    obtain ⟨v, vs, rfl, h3, h4⟩ := hy.cons_left
    simp only [keyEqs] at h
    cases ha : keyEq1 a b with
    | none => rw [ha] at h; cases h
    | some p =>
      rw [ha] at h
      cases hb : keyEqs as bs with
      | none => rw [hb] at h; cases h
      | some q =>
        rw [hb] at h
        have hpq : p = true ∧ q = true := by simpa using h
        obtain ⟨rfl, rfl⟩ := hpq
        obtain ⟨h5, h6⟩ := keyEqs_bits n h2 h4 hb
        have := keyEq1_bits h1 h3 ha n
        simp only [List.zip_cons_cons, List.all_cons, this, h5, Bool.and_self, true_and]
        simp [h6]

theorem keyEq_bits {a b : AV} {x y : Value} (ha : VRel m F a x) (hb : VRel m F b y) (h : keyEq a b = some true) : Instr.sameBits 10000 y x = true := by
  unfold keyEq at h
  split at h
  · cases ha with
    | agg _ xs hl hr =>
    cases hb with
    | agg _ ys hl2 hr2 =>
    obtain ⟨h1, h2⟩ := keyEqs_bits 9999 ⟨hl, hr⟩ ⟨hl2, hr2⟩ h
    show Instr.sameBits (9999 + 1) _ _ = true
    simp only [Instr.sameBits, List.size_toArray, h2, beq_self_eq_true, Bool.true_and]
    exact h1
  · exact keyEq1_bits ha hb h _

/-- A map is written. -/
theorem Inv.setMap (hi : Inv m F g w) {id : Nat} {es : List (AV × AV)} (hg : g id = some (.map es)) {loc : Loc} (hm : m id = some loc)
    {ces : Array MapEntry} {clock : Nat} (hb : w.heap[loc.block]? = some (.map ces clock)) (es' : List (AV × AV)) (ces' : Array MapEntry) (clock' : Nat) (hrel : EntRel m F es' ces'.toList) :
    Inv m F (upd g id (.map es')) { w with heap := w.heap.setIfInBounds loc.block (.map ces' clock') } ∧ Ext m F w m F { w with heap := w.heap.setIfInBounds loc.block (.map ces' clock') } := by
  obtain ⟨l1, c1, k1, h1, h2, h3, h4, h5⟩ := hi.objs id _ hg
  rw [hm] at h1; cases h1
  have hlt := hi.dom id loc hm
  have := hi.put id loc (.map es') (by simp) (w' := { w with heap := w.heap.setIfInBounds loc.block (.map ces' clock') })
    (fun l hl => by rw [hm] at hl; cases hl; exact ⟨Nat.le_refl _, fun _ => rfl, fun _ => rfl⟩)
    (.inr ⟨loc, hm, rfl⟩) (by simpa using hlt) (by simp)
    (fun b hb' hn => by
      show (w.heap.setIfInBounds loc.block _)[b]? = _
      rw [Array.getElem?_setIfInBounds_ne (fun e => hn loc hm e)])
    (fun l j v hl hf => by
      rw [hm] at hl; cases hl
      have := hi.froz _ _ _ hf
      simp [World.cell?, hb] at this)
    ⟨rfl, rfl, rfl⟩
    (fun _ => by
      rw [updM_self hm]
      exact ⟨loc, ces', clock', hm, h2, by simp [hlt], hrel.1, hrel.2⟩)
  rw [updM_self hm] at this
  exact this

theorem run_setMap {r : Nat} {ces : Array MapEntry} {clock : Nat} (o : Obj) (h : w.heap[r]? = some (.map ces clock)) : (setObj r o).run P w = .ok () { w with heap := w.heap.setIfInBounds r o } := by
  simp [setObj, Sem.run, h]

theorem map_set {α β : Type} (f : α → β) (a : Array α) (i : Nat) (h : α → α) (y : β) (hy : ∀ x, f (h x) = y) (hi : i < a.size) : (a.modify i h).toList.map f = (a.toList.map f).set i y := by
  apply List.ext_getElem?
  intro j
  rw [List.getElem?_map, List.getElem?_set, Array.getElem?_toList, Array.getElem?_modify]
  by_cases hij : i = j
  · subst hij
    simp [hi, hy]
  · simp [hij]

theorem update_ok (hi : Inv m F g w) {t : TypeId} {mp k v : AV} {u : Ups} {pm pk pv : Value} (hm : VRel m F mp pm) (hk : VRel m F k pk) (hv : VRel m F v pv) (h : updateA P g t mp k v = some u) :
    ∃ w', (Instr.mapUpdate t pm pk pv).run P w = .ok () w' ∧ Inv m F (updU g u) w' ∧ Ext m F w m F w' := by
  unfold updateA at h
  split at h
  · rename_i kt et id hu
    cases hm with
    | map id loc h1 h2 =>
    split at h
    · rename_i es hg
      split at h
      · rename_i hkey
        obtain ⟨l1, ces, clock, h3, h4, h5, h6, h7⟩ := hi.objs _ _ hg
        have e1 : loc = l1 := by rw [h1] at h3; exact Option.some.inj h3
        subst e1
        have hent : EntRel m F es ces.toList := ⟨h6, h7⟩
        have hlen : es.length = ces.size := by have := h6.1; simpa using this
        split at h
        · rename_i i x hf
          cases h
          obtain ⟨r', hr1, hr2⟩ := find_ok (P := P) (w := w) hkey hk hent hf
          obtain ⟨-, k', hk', hkeq⟩ := findA_some hf
          simp only [Nat.sub_zero] at hk'
          have hilt : i < ces.size := by rw [← hlen]; exact (List.getElem?_eq_some_iff.1 hk').1
          cases r' with
          | none => exact hr2.elim
          | some p =>
            obtain ⟨j, y⟩ := p
            obtain ⟨rfl, hvy⟩ := hr2
            have hkk : VRel m F k' ces[i].key := by
              have := h6.2 i k' ces[i].key (by rw [List.getElem?_map, hk']; rfl) (by rw [List.getElem?_map]; simp [hilt])
              exact this
            have hbits := keyEq_bits hk hkk hkeq
            have hset := hi.setMap hg h1 h5 (es.set i (k, v)) (ces.modify i fun e => { e with key := pk, val := pv }) clock (by
              refine ⟨?_, ?_⟩
              · rw [map_set (·.key) ces i _ pk (fun _ => rfl) hilt, List.map_set]
                exact h6.set i hk
              · rw [map_set (·.val) ces i _ pv (fun _ => rfl) hilt, List.map_set]
                exact h7.set i hv)
            refine ⟨_, ?_, hset.1, hset.2⟩
            simp only [Instr.mapUpdate, Sem.run_bind, run_underlying hu, Result.andThen_ok, run_getMap w h5, keyOk_check hkey hk, hr1]
            have hget : ces[i]? = some ces[i] := Array.getElem?_eq_getElem hilt
            simp only [hget, Option.map_some, Option.getD_some, Instr.keyThatStays, hbits, if_true, Sem.run_pure, Result.andThen_ok]
            exact run_setMap _ h5
        · rename_i hf
          cases h
          obtain ⟨r', hr1, hr2⟩ := find_ok (P := P) (w := w) hkey hk hent hf
          cases r' with
          | some p => exact hr2.elim
          | none =>
            have hset := hi.setMap hg h1 h5 (es ++ [(k, v)]) (ces.push { key := pk, val := pv, born := clock }) (clock + 1) (by
              refine ⟨?_, ?_⟩
              · simp only [List.map_append, List.map_cons, List.map_nil, Array.toList_push]
                exact h6.append (RelL.cons hk RelL.nil)
              · simp only [List.map_append, List.map_cons, List.map_nil, Array.toList_push]
                exact h7.append (RelL.cons hv RelL.nil))
            refine ⟨_, ?_, hset.1, hset.2⟩
            simp only [Instr.mapUpdate, Sem.run_bind, run_underlying hu, Result.andThen_ok, run_getMap w h5, keyOk_check hkey hk, hr1]
            exact run_setMap _ h5
        · cases h
      · cases h
    · cases h
  · cases h

theorem map_erase {α β : Type} (f : α → β) : ∀ (l : List α) (i : Nat), (l.eraseIdx i).map f = (l.map f).eraseIdx i
  | [], _ => rfl
  | _ :: _, 0 => rfl
  | x :: l, i + 1 => by simp [map_erase f l i]

theorem eraseIdx_rel {a : List AV} {x : List Value} (h : RelL m F a x) (i : Nat) : RelL m F (a.eraseIdx i) (x.eraseIdx i) := by
  rw [List.eraseIdx_eq_take_drop_succ, List.eraseIdx_eq_take_drop_succ]
  exact (h.take i).append (h.drop (i + 1))

theorem delete_ok (hi : Inv m F g w) {A : Array TypeId} {t ty : TypeId} (hA : A[0]? = some t) {mp k : AV} {u : Ups} {pm pk : Value} (hm : VRel m F mp pm) (hk : VRel m F k pk) (h : deleteA P g t mp k = some u) :
    ∃ w', (Builtin.delete_ A ty #[pm, pk]).run P w = .ok Go.undef w' ∧ Inv m F (updU g u) w' ∧ Ext m F w m F w' := by
  unfold deleteA at h
  split at h
  · rename_i kt et id hu
    cases hm with
    | map id loc h1 h2 =>
    split at h
    · rename_i es hg
      split at h
      · rename_i hkey
        obtain ⟨l1, ces, clock, h3, h4, h5, h6, h7⟩ := hi.objs _ _ hg
        have e1 : loc = l1 := by rw [h1] at h3; exact Option.some.inj h3
        subst e1
        have hent : EntRel m F es ces.toList := ⟨h6, h7⟩
        split at h
        · rename_i i x hf
          cases h
          obtain ⟨r', hr1, hr2⟩ := find_ok (P := P) (w := w) hkey hk hent hf
          cases r' with
          | none => exact hr2.elim
          | some p =>
            obtain ⟨j, y⟩ := p
            obtain ⟨rfl, hvy⟩ := hr2
            have herase : (ces.eraseIdxIfInBounds i).toList = ces.toList.eraseIdx i := by
              unfold Array.eraseIdxIfInBounds
              split
              · simp
              · rw [List.eraseIdx_of_length_le (by simp; omega)]
            have hset := hi.setMap hg h1 h5 (es.eraseIdx i) (ces.eraseIdxIfInBounds i) clock (by
              rw [herase]
              refine ⟨?_, ?_⟩
              · rw [map_erase, map_erase]; exact eraseIdx_rel h6 i
              · rw [map_erase, map_erase]; exact eraseIdx_rel h7 i)
            refine ⟨_, ?_, hset.1, hset.2⟩
            simp only [Builtin.delete_, hA, List.getElem?_toArray, List.getElem?_cons_zero, List.getElem?_cons_succ, Sem.run_bind, run_underlying hu, Result.andThen_ok, run_getMap w h5, keyOk_check hkey hk, hr1, run_setMap _ h5, Sem.run_pure]
            rfl
        · rename_i hf
          cases h
          obtain ⟨r', hr1, hr2⟩ := find_ok (P := P) (w := w) hkey hk hent hf
          cases r' with
          | some p => exact hr2.elim
          | none =>
            have hset := hi.setMap hg h1 h5 es ces clock hent
            refine ⟨_, ?_, hset.1, hset.2⟩
            simp only [Builtin.delete_, hA, List.getElem?_toArray, List.getElem?_cons_zero, List.getElem?_cons_succ, Sem.run_bind, run_underlying hu, Result.andThen_ok, run_getMap w h5, keyOk_check hkey hk, hr1, run_setMap _ h5, Sem.run_pure]
            rfl
        · cases h
      · cases h
    · cases h
  · cases h

theorem makeMap_ok (hi : Inv m F g w) {nid : Nat} (hn : m nid = none) (t : TypeId) :
    ∃ cv w' m', (Instr.makeMap t none).run P w = .ok cv w' ∧ VRel m' F (.map nid) cv ∧ Inv m' F (upd g nid (.map [])) w' ∧ Ext m F w m' F w' := by
  have hnew : (w.alloc (.map #[] 0)).heap[w.heap.size]? = some (.map #[] 0) := by
    show (w.heap.push _)[w.heap.size]? = _
    simp
  have := hi.put nid ⟨w.heap.size, 0, 0, 0, true⟩ (.map []) (by simp) (w' := w.alloc (.map #[] 0)) (fun l hl => by rw [hn] at hl; cases hl) (.inl (Nat.le_refl _)) (by simp) (by simp)
    (fun b hb _ => RowKit.Below.heap_alloc w _ b hb) (fun l j v hl => by rw [hn] at hl; cases hl) ⟨rfl, rfl, rfl⟩
    (fun _ => ⟨⟨w.heap.size, 0, 0, 0, true⟩, #[], 0, by simp [updM], rfl, hnew, RelL.nil, RelL.nil⟩)
  exact ⟨.map (some w.heap.size), _, _, rfl, .map nid ⟨w.heap.size, 0, 0, 0, true⟩ (by simp [updM]) rfl, this.1, this.2⟩
end
end Go.Am
