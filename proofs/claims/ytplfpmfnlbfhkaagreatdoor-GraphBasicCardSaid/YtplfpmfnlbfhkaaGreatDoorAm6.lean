/- Operations, one by one. Second part: memory and slices. -/
import Derived.Test.YtplfpmfnlbfhkaaGreatDoorAm5
import Derived.Laws.Slices
set_option linter.unusedVariables false
set_option linter.unusedSimpArgs false
namespace Go.Am
open Go

section
variable {P : Program} {m m' : MMap} {F F' : FMap} {g : Look} {w w' : World}

theorem updM_self {id : Nat} {loc : Loc} (h : m id = some loc) : updM m id loc = m := by
  funext i; simp only [updM]; split
  · rename_i hi; subst hi; exact h.symm
  · rfl

theorem setRow_size (w : World) (b : Nat) (cs : Array Value) : (w.setRow b cs).heap.size = w.heap.size := by simp [World.setRow]

/-- An object's cells are written. -/
theorem Inv.setCells (hi : Inv m F g w) {id sz ver fz : Nat} {c : List AV} (hg : g id = some (.cells sz ver fz c)) {loc : Loc} (hm : m id = some loc)
    {arr : Array Value} {e : TypeId} (hb : w.heap[loc.block]? = some (.cells arr e (0, 0))) (c' : List AV) (arr' : Array Value)
    (hsz : arr'.size = arr.size) (hlen : c'.length ≤ arr.size) (hrel : RelL m F c' (arr'.toList.take c'.length))
    (hfz : ∀ j, j < fz → arr'[j]? = arr[j]?) :
    Inv m F (upd g id (.cells sz ver fz c')) (w.setRow loc.block arr') ∧ Ext m F w m F (w.setRow loc.block arr') := by
  obtain ⟨l1, arr1, e1, h1, h2, h3, h4, h5, h6, h7, h8, h9⟩ := hi.objs id _ hg
  rw [hm] at h1; cases h1
  rw [hb] at h5; cases h5
  have hnew : (w.setRow loc.block arr').heap[loc.block]? = some (.cells arr' e (0, 0)) := setRow_heap w loc.block arr arr' e (0, 0) hb
  have := hi.put id loc (.cells sz ver fz c') (by simp) (w' := w.setRow loc.block arr')
    (fun l hl => by rw [hm] at hl; cases hl; exact ⟨Nat.le_refl _, fun _ => rfl, fun _ => rfl⟩)
    (.inr ⟨loc, hm, rfl⟩) (by rw [setRow_size]; exact hi.dom id loc hm) (by rw [setRow_size]; exact Nat.le_refl _)
    (fun b hb' hn => setRow_other w loc.block b arr' (fun e => hn loc hm e.symm))
    (fun l j v hl hf => by
      rw [hm] at hl; cases hl
      have hj : j < fz := by
        rcases Nat.lt_or_ge j fz with h | h
        · exact h
        · rw [h9 j h] at hf; cases hf
      have h0 := hi.froz _ _ _ hf
      simp only [World.cell?, hb] at h0
      simp only [World.cell?, hnew]
      rw [hfz j hj]; exact h0)
    ⟨rfl, rfl, rfl⟩
    (fun _ => by
      rw [updM_self hm]
      exact ⟨loc, arr', e, hm, h2, h3, h4, hnew, by rw [hsz]; exact h6, by rw [hsz]; exact hlen, hrel, h9⟩)
  rw [updM_self hm] at this
  exact this

theorem splice_length (c : List AV) (off : Nat) (xs : List AV) (h : off + xs.length ≤ c.length) : (splice c off xs).length = c.length := by
  simp [splice]; omega

theorem store_ok (hi : Inv m F g w) {t : TypeId} {v x : AV} {u : Ups} {a y : Value} (hv : VRel m F v a) (hx : VRel m F x y) (h : storeA P t g v x = some u) :
    ∃ w', (Instr.storeAt t a y).run P w = .ok () w' ∧ Inv m F (updU g u) w' ∧ Ext m F w m F w' := by
  cases hv with
  | ptr id ver off loc b hm hle hcur =>
    simp only [storeA] at h
    cases hg : g id with
    | none => rw [hg] at h; cases h
    | some o =>
      rw [hg] at h
      cases hs : tySize P t with
      | none => rw [hs] at h; cases o <;> cases h
      | some n =>
        rw [hs] at h
        cases o with
        | gone => cases h
        | map es => cases h
        | cells sz ver' fz c =>
          simp only at h
          split at h
          · rename_i hc
            obtain ⟨hver, hn, hflat, hoff, hfz⟩ := hc
            subst hver
            cases h
            obtain ⟨l1, arr, e, h1, h2, h3, h4, h5, h6, h7, h8, h9⟩ := hi.objs id _ hg
            rw [hm] at h1; cases h1
            have hb := hcur (by omega)
            subst hb
            have hyc := hx.cells
            have hyl : y.cells.toList.length = n := by rw [← hyc.1]; exact hn
            have hone : ∀ z ∈ y.cells.toList, z.oneCell' = true := by
              intro z hz
              obtain ⟨j, hj, rfl⟩ := List.getElem_of_mem hz
              have hjl : j < x.cells.length := by rw [hyc.1]; exact hj
              have hr := hyc.2 j _ _ (List.getElem?_eq_getElem hjl) (List.getElem?_eq_getElem hj)
              exact hr.flat (List.all_eq_true.1 hflat _ (List.getElem_mem hjl))
            have hst := run_storeCells_at P loc.block off e y.cells.toList 0 arr w h5 (by simp only [Nat.add_zero]; omega) hone
            simp only [Nat.add_zero] at hst
            refine ⟨w.setRow loc.block (List.take off arr.toList ++ y.cells.toList ++ List.drop (off + y.cells.toList.length) arr.toList).toArray, ?_, ?_⟩
            · have hsz : y.cells.size = n := by simpa using hyl
              simp only [Instr.storeAt, Instr.sureAddr, storeVar, Sem.run_bind, Sem.run_pure, Result.andThen_ok, tySize_run hs, hsz, ne_eq, not_true_eq_false, if_false, hst]
            · have hxs : x.cells.length = y.cells.toList.length := hyc.1
              refine hi.setCells hg hm h5 (splice c off x.cells) _ ?_ ?_ ?_ ?_
              · simp only [List.size_toArray, List.length_append, List.length_take, List.length_drop]
                simp only [Array.length_toList] at *
                omega
              · rw [splice_length c off x.cells (by omega)]; exact h7
              · refine RelL.of_get ?_ fun i p hp => ?_
                · have := splice_length c off x.cells (by omega)
                  simp only [List.length_take, this, List.length_append, List.length_drop, Array.length_toList] at *
                  omega
                · have hlt := (List.getElem?_eq_some_iff.1 hp).1
                  rw [List.getElem?_take, if_pos hlt]
                  unfold splice at hp
                  simp only [List.append_assoc] at hp ⊢
                  have hto : (arr.toList.take off).length = off := by simp; omega
                  have htc : (c.take off).length = off := by simp; omega
                  by_cases h1 : i < off
                  · rw [List.getElem?_append_left (by omega)] at hp
                    rw [List.getElem?_append_left (by omega), List.getElem?_take, if_pos h1]
                    rw [List.getElem?_take, if_pos h1] at hp
                    obtain ⟨q, hq, hr⟩ := h8.get hp
                    rw [List.getElem?_take] at hq
                    split at hq
                    · exact ⟨q, hq, hr⟩
                    · cases hq
                  · rw [List.getElem?_append_right (by omega), htc] at hp
                    rw [List.getElem?_append_right (by omega), hto]
                    by_cases h2 : i - off < x.cells.length
                    · rw [List.getElem?_append_left h2] at hp
                      rw [List.getElem?_append_left (by omega)]
                      exact hyc.get hp
                    · rw [List.getElem?_append_right (by omega), List.getElem?_drop] at hp
                      rw [List.getElem?_append_right (by omega), List.getElem?_drop]
                      obtain ⟨q, hq, hr⟩ := h8.get hp
                      rw [List.getElem?_take] at hq
                      split at hq
                      · rw [← hxs]; exact ⟨q, hq, hr⟩
                      · cases hq
              · intro j hj
                simp only [List.append_assoc, List.getElem?_toArray]
                rw [List.getElem?_append_left (by simp; omega), List.getElem?_take, if_pos (by omega)]
                simp
          · cases h
  | _ => cases h

/-- A new object of cells. -/
theorem new_cells (hi : Inv m F g w) {nid : Nat} (hn : m nid = none) (sz cap : Nat) {c : List AV} {arr : Array Value} (e : TypeId) (hcap : cap * sz ≤ arr.size)
    (hlen : c.length ≤ arr.size) (hrel : RelL m F c (arr.toList.take c.length)) :
    Inv (updM m nid ⟨w.heap.size, 0, sz, cap, false⟩) F (upd g nid (.cells sz 0 0 c)) (w.alloc (.cells arr e)) ∧
      Ext m F w (updM m nid ⟨w.heap.size, 0, sz, cap, false⟩) F (w.alloc (.cells arr e)) := by
  have hnew : (w.alloc (.cells arr e)).heap[w.heap.size]? = some (.cells arr e (0, 0)) := by
    show (w.heap.push _)[w.heap.size]? = _
    simp
  refine hi.put nid ⟨w.heap.size, 0, sz, cap, false⟩ (.cells sz 0 0 c) (by simp) (fun l hl => by rw [hn] at hl; cases hl) (.inl (Nat.le_refl _)) (by simp) (by simp)
    (fun b hb _ => RowKit.Below.heap_alloc w _ b hb) (fun l j v hl => by rw [hn] at hl; cases hl) ⟨rfl, rfl, rfl⟩ fun hg => ?_
  exact ⟨⟨w.heap.size, 0, sz, cap, false⟩, arr, e, by simp [updM], rfl, rfl, rfl, hnew, hcap, hlen, hrel.mono hg, fun j _ => hi.fnone (Nat.le_refl _) j⟩

theorem newVar_ok (hi : Inv m F g w) {nid : Nat} (hn : m nid = none) {x : AV} {y : Value} (hx : VRel m F x y) (t : TypeId) :
    ∃ w' m', (newVar t y).run P w = .ok ⟨w.heap.size, 0, none⟩ w' ∧ VRel m' F (.ptr nid 0 0) (.pointer (some ⟨w.heap.size, 0, none⟩)) ∧
      Inv m' F (upd g nid (.cells 0 0 0 x.cells)) w' ∧ Ext m F w m' F w' := by
  have hc := hx.cells
  have hl : y.cells.toList.take x.cells.length = y.cells.toList := List.take_of_length_le (by rw [hc.1]; exact Nat.le_refl _)
  obtain ⟨h1, h2⟩ := new_cells hi hn 0 0 (c := x.cells) (arr := y.cells) t (by simp) (by have := hc.1; simp at this; omega) (by rw [hl]; exact hc)
  refine ⟨_, _, ?_, ?_, h1, h2⟩
  · rfl
  · exact .ptr nid 0 0 ⟨w.heap.size, 0, 0, 0, false⟩ w.heap.size (by simp [updM]) (Nat.le_refl _) fun _ => rfl

theorem fieldAddr_ok {s : TypeId} {v r : AV} {f : Nat} {x : Value} (hv : VRel m F v x) (h : fieldAddrA P s v f = some r) :
    ∃ cv, (Instr.fieldAt s x f).run P w = .ok cv w ∧ VRel m F r cv := by
  unfold fieldAddrA at h
  cases hf : fieldOff P s f with
  | none => rw [hf] at h; cases h
  | some p =>
    obtain ⟨o, ft⟩ := p
    rw [hf] at h
    simp only at h
    cases hs : tySize P ft with
    | none => rw [hs] at h; cases h
    | some n =>
      rw [hs] at h
      cases n with
      | zero => cases h
      | succ n =>
        simp only at h
        unfold fieldOff at hf
        split at hf
        · rename_i fields hu
          obtain ⟨fd, hfd, he⟩ := map_some' hf
          cases he
          have hplace : ∀ a : Addr, (fieldPlace a fd).run P w = .ok (a.add fd.offset) w := fun a => by
            simp [fieldPlace, tySize_run hs]
          cases hv with
          | ptr id ver off loc b hm hle hcur =>
            cases h
            exact ⟨.pointer (some ⟨b, off + fd.offset, none⟩), by simp [Instr.fieldAt, run_underlying hu, hfd, Instr.sureAddr, hplace, add_plain], .ptr id ver _ loc b hm hle hcur⟩
          | fptr cs b o vs hF hv =>
            cases h
            refine ⟨.pointer (some ⟨b, o + fd.offset, none⟩), by simp [Instr.fieldAt, run_underlying hu, hfd, Instr.sureAddr, hplace, add_plain], ?_⟩
            refine .fptr _ b _ (fun j => vs (fd.offset + j)) (fun j c hj => ?_) (fun j c hj => ?_)
            · rw [List.getElem?_drop] at hj
              have := hF _ _ hj
              rw [show o + fd.offset + j = o + (fd.offset + j) by omega]; exact this
            · rw [List.getElem?_drop] at hj
              exact hv _ _ hj
          | _ => cases h
        · cases hf

theorem partA_ok {t : TypeId} {cs : List AV} {xs : List Value} {off : Nat} {r : AV} (hr : RelL m F cs xs) (h : partA P t cs off = some r) :
    ∃ cv, (part t xs.toArray off).run P w = .ok cv w ∧ VRel m F r cv := by
  unfold partA at h
  cases ha : tyAgg P t with
  | none => rw [ha] at h; cases h
  | some ag =>
    rw [ha] at h
    cases ag with
    | false =>
      simp only at h
      obtain ⟨y, hy, hv⟩ := hr.get h
      exact ⟨y, by simp [part, tyAgg_run ha, hy], hv⟩
    | true =>
      simp only at h
      cases hs : tySize P t with
      | none => rw [hs] at h; cases h
      | some n =>
        rw [hs] at h
        simp only at h
        split at h
        · rename_i hn
          cases h
          refine ⟨.agg ((xs.drop off).take n).toArray, ?_, ?_⟩
          · simp [part, tyAgg_run ha, tySize_run hs, List.extract_toArray, List.extract_eq_take_drop]
          · exact .agg _ _ ((hr.drop off).take n).1 ((hr.drop off).take n).2
        · cases h

theorem field_ok {s : TypeId} {v r : AV} {f : Nat} {x : Value} (hv : VRel m F v x) (h : fieldA P s v f = some r) :
    ∃ cv, (Instr.field s x f).run P w = .ok cv w ∧ VRel m F r cv := by
  unfold fieldA at h
  split at h
  · rename_i o ft cs hf
    cases hv with
    | agg a y ha h1 =>
      unfold fieldOff at hf
      split at hf
      · rename_i fields hu
        obtain ⟨fd, hfd, he⟩ := map_some' hf
        cases he
        obtain ⟨cv, h2, h3⟩ := partA_ok (w := w) (P := P) ⟨ha, h1⟩ h
        exact ⟨cv, by simp [Instr.field, run_underlying hu, hfd, asAgg, h2], h3⟩
      · cases hf
  · cases h
end
end Go.Am
