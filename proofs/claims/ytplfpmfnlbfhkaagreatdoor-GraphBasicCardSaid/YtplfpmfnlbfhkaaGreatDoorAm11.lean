/- Operations, one by one. Seventh part: copy, make, literals. -/
import Derived.Test.YtplfpmfnlbfhkaaGreatDoorAm10
import Derived.IntWalk
import Derived.Laws.MakeOwn
set_option linter.unusedVariables false
set_option linter.unusedSimpArgs false
namespace Go.Am
open Go

section
variable {P : Program} {m m' : MMap} {F F' : FMap} {g : Look} {w w' : World}

theorem copy_ok (hi : Inv m F g w) {A : Array TypeId} {t ty : TypeId} (hA : A[0]? = some t) {d x v : AV} {u : Ups} {pd px : Value} (hd : VRel m F d pd) (hx : VRel m F x px)
    (h : copyA P g t d x = some (v, u)) :
    ∃ cv w', (Builtin.copy_ A ty #[pd, px]).run P w = .ok cv w' ∧ VRel m F v cv ∧ Inv m F (updU g u) w' ∧ Ext m F w m F w' := by
  unfold copyA at h
  cases he : elemTy P t with
  | none => rw [he] at h; cases h
  | some e =>
    rw [he] at h
    simp only at h
    have ht := elemTy_und he
    cases hs : tySize P e with
    | none => rw [hs] at h; cases h
    | some sz =>
      rw [hs] at h
      simp only at h
      split at h
      · rename_i xs k id ver len hsrc
        split at h
        · rename_i sz' ver' fz c hg
          split at h
          · rename_i hc
            obtain ⟨hver, hsz, hlc, hfz, hflat⟩ := hc
            subst hver hsz hfz
            cases h
            obtain ⟨news, hr, hl, hlen, hfirst⟩ := src_first (P := P) hi hx hsrc
            obtain ⟨l1, arr, te, h1, h2, h3, h4, h5, h6, h7, h8, h9⟩ := hi.objs _ _ hg
            cases hd with
            | mrow _ _ _ loc b cap hm hle hc hcur =>
            have e1 : loc = l1 := by rw [hm] at h1; exact Option.some.inj h1
            subst e1
            obtain ⟨hb, hcap⟩ := hcur h3.symm
            subst hb hcap
            have hone := rel_flat hr hflat
            have hmk : min k len * sz' ≤ len * sz' := Nat.mul_le_mul_right _ (Nat.min_le_right _ _)
            have hmk2 : min k len * sz' ≤ k * sz' := Nat.mul_le_mul_right _ (Nat.min_le_left _ _)
            have hnl : (news.take (min k len * sz')).length = min k len * sz' := by rw [List.length_take, hl]; omega
            have hxl : (xs.take (min k len * sz')).length = min k len * sz' := by rw [List.length_take, hr.1, hl]; omega
            have hst := run_storeCells_at P loc.block 0 te (news.take (min k len * sz')) 0 arr w h5 (by rw [hnl]; omega) (fun y hy => hone y (List.mem_of_mem_take hy))
            simp only [Nat.zero_add, Nat.add_zero, List.take_zero, List.nil_append] at hst
            have hset := hi.setCells hg hm h5 (splice c 0 (xs.take (min k len * sz'))) (news.take (min k len * sz') ++ arr.toList.drop (news.take (min k len * sz')).length).toArray
              (by simp only [List.size_toArray, List.length_append, List.length_drop, Array.length_toList, hnl]; omega)
              (by rw [splice_length _ _ _ (by rw [hxl]; omega)]; exact h7)
              (by
                have hsl : (splice c 0 (xs.take (min k len * sz'))).length = c.length := splice_length _ _ _ (by rw [hxl]; omega)
                rw [hsl]
                refine RelL.of_get (by rw [hsl]; simp only [List.length_take, List.toList_toArray, List.length_append, List.length_drop, Array.length_toList, hnl, hl]; omega) fun i p hp => ?_
                have hlt := (List.getElem?_eq_some_iff.1 hp).1
                rw [hsl] at hlt
                rw [List.getElem?_take, if_pos hlt]
                simp only [splice, List.take_zero, List.nil_append, Nat.zero_add, List.toList_toArray] at hp ⊢
                by_cases h1 : i < min k len * sz'
                · rw [List.getElem?_append_left (by omega)] at hp ⊢
                  exact (hr.take _).get hp
                · rw [List.getElem?_append_right (by omega), List.getElem?_drop] at hp ⊢
                  rw [hxl] at hp
                  rw [hnl]
                  obtain ⟨q, hq, hr2⟩ := h8.get hp
                  rw [List.getElem?_take] at hq
                  split at hq
                  · exact ⟨q, hq, hr2⟩
                  · cases hq)
              (fun j hj => by omega)
            refine ⟨.int .i64 (min k len : Nat), _, ?_, .int _ _, hset.1, hset.2⟩
            have hmin : Nat.min k len ≤ k := Nat.min_le_left _ _
            have hf := hfirst w rfl (Nat.min k len) hmin
            unfold Builtin.copy_
            simp only [hA, List.getElem?_toArray, List.getElem?_cons_zero, List.getElem?_cons_succ, Sem.run_bind, run_underlying ht, Result.andThen_ok, hlen, tySize_run hs, hf, hst, Sem.run_pure]
            have hst' : (storeCells ⟨loc.block, 0, none⟩ (news.take (Nat.min k len * sz')).toArray.toList).run P w = .ok () (w.setRow loc.block (news.take (min k len * sz') ++ arr.toList.drop (news.take (min k len * sz')).length).toArray) := hst
            rfl
          · cases h
        · cases h
      · cases h

theorem reps_len (n : Nat) (cs : List AV) : (reps n cs).length = n * cs.length := by
  induction n with
  | zero => simp [reps]
  | succ n ih => simp only [reps, List.length_append, ih, Nat.add_mul]; omega
theorem reps_get : ∀ (n : Nat) (cs : List AV) (t : Nat), t < n * cs.length → (reps n cs)[t]? = cs[t % cs.length]?
  | 0, cs, t, h => by simp at h
  | n + 1, cs, t, h => by
    have e : (n + 1) * cs.length = n * cs.length + cs.length := Nat.succ_mul n cs.length
    simp only [reps]
    by_cases ht : t < cs.length
    · rw [List.getElem?_append_left ht, Nat.mod_eq_of_lt ht]
    · rw [List.getElem?_append_right (by omega), reps_get n cs (t - cs.length) (by omega), ← Nat.mod_eq_sub_mod (by omega)]

theorem reps_rel {zc : List AV} {zs : Array Value} (hr : RelL m F zc zs.toList) (n N : Nat) (hn : n ≤ N) :
    RelL m F (reps n zc) ((((Array.range (N * zs.size)).map (zs[· % zs.size]!)).toList).take (reps n zc).length) := by
  have hz : zc.length = zs.size := by have := hr.1; simpa using this
  have hmul : n * zs.size ≤ N * zs.size := Nat.mul_le_mul_right _ hn
  rw [reps_len, hz]
  refine RelL.of_get (by rw [reps_len, hz]; simp only [List.length_take, Array.length_toList, Array.size_map, Array.size_range]; omega) fun i u hu => ?_
  have hlt := (List.getElem?_eq_some_iff.1 hu).1
  rw [reps_len, hz] at hlt
  rw [reps_get n zc i (by rw [hz]; exact hlt), hz] at hu
  obtain ⟨y, hy, hv⟩ := hr.get hu
  refine ⟨y, ?_, hv⟩
  rw [List.getElem?_take, if_pos hlt]
  have hpos : 0 < zs.size := by
    rcases Nat.eq_zero_or_pos zs.size with h0 | h0
    · rw [h0] at hlt; simp at hlt
    · exact h0
  have hmod : i % zs.size < zs.size := Nat.mod_lt _ hpos
  simp [show i < N * zs.size by omega]
  simp at hy
  rw [Array.getElem?_eq_getElem hmod] at hy
  simp [getElem!_pos, hmod]
  simpa using hy

theorem makeSlice_ok (hi : Inv m F g w) {nid : Nat} (hn : m nid = none) {t : TypeId} {l c v : AV} {u : Ups} {pl pc : Value} (hl : VRel m F l pl) (hc : VRel m F c pc)
    (h : makeSliceA P nid t l c = some (v, u)) :
    ∃ cv w' m', (Instr.makeSlice t pl pc).run P w = .ok cv w' ∧ VRel m' F v cv ∧ Inv m' F (updU g u) w' ∧ Ext m F w m' F w' := by
  unfold makeSliceA at h
  split at h
  · rename_i e k1 n k2 mm he
    have ht := elemTy_und he
    cases hl; cases hc
    split at h
    · rename_i i z hinfo hz
      split at h
      · rename_i hc
        obtain ⟨h0, hnm, hlim, hby, hsz, hzc⟩ := hc
        cases h
        obtain ⟨zv, hzr, hzrel, i', hi', hiz⟩ := zeroA_run hz
        rw [hinfo] at hi'; cases hi'
        have hzs : zv.cells.size = i.size := by rw [(hzrel (fun _ => none) (fun _ _ => none)).cells_length]; exact hzc
        obtain ⟨N, rfl⟩ := Int.eq_ofNat_of_zero_le (show 0 ≤ mm by omega)
        obtain ⟨n', rfl⟩ := Int.eq_ofNat_of_zero_le h0
        have hN : N ≤ 2147483648 := by unfold lim at hlim; omega
        obtain ⟨h5, h6⟩ := new_cells hi hn i.size N (c := reps n' z.cells) (arr := (Array.range (N * i.size)).map (zv.cells[· % zv.cells.size]!)) e
          (by simp) (by rw [reps_len, hzc]; simp; exact Nat.mul_le_mul_right _ (by omega))
          (by
            have := reps_rel (m := m) (F := F) (hzrel m F).cells n' N (by omega)
            rw [hzs] at this
            rw [hzs]
            exact this)
        refine ⟨.slice (some ⟨w.heap.size, 0, none⟩) n' N, _, _, ?_, ?_, h5, h6⟩
        · have hb : i.bytes * N ≤ 70368744177664 := Nat.le_trans (Nat.mul_le_mul hby hN) (by decide)
          have hb2 : (i.bytes : Int) * (N : Int) ≤ 281474976710656 := by
            have := Int.ofNat_le.mpr hb
            rw [Int.natCast_mul] at this
            omega
          exact run_make (P := P) w t e i zv ht hinfo hiz k1 k2 (n' : Int) (N : Int) (by omega) (by omega) hb2 (by omega)
        · exact .mrow nid 0 n' ⟨w.heap.size, 0, i.size, N, false⟩ w.heap.size N (by simp [updM]) (Nat.le_refl _) (by omega) fun _ => ⟨rfl, rfl⟩
      · cases h
    · cases h
  · cases h

theorem run_mapM {α β : Type} {f : α → Sem β} {h : α → β} : ∀ (l : List α), (∀ x ∈ l, (f x).run P w = .ok (h x) w) → (l.mapM f).run P w = .ok (l.map h) w
  | [], _ => by simp
  | x :: l, hl => by
    have h1 := hl x (by simp)
    have h2 := run_mapM l fun y hy => hl y (by simp [hy])
    simp [List.mapM_cons, h1, h2]

theorem foldl_set (off : Nat) : ∀ (xs : List Value) (k : Nat) (arr : Array Value), off + k + xs.length ≤ arr.size →
    ((xs.zipIdx k).foldl (fun cs (p : Value × Nat) => cs.setIfInBounds (off + p.2) p.1) arr) = (arr.toList.take (off + k) ++ xs ++ arr.toList.drop (off + k + xs.length)).toArray
  | [], k, arr, _ => by simp
  | x :: xs, k, arr, h => by
    simp only [List.zipIdx_cons, List.foldl_cons]
    rw [foldl_set off xs (k + 1) _ (by simp at h ⊢; omega)]
    have e := list_seg_step arr.toList (off + k) x xs (by simp at h ⊢; omega)
    congr 1
    simpa [Array.toList_setIfInBounds, Nat.add_assoc] using e

theorem splice_rel {c xs : List AV} {a ys : List Value} (hc : RelL m F c a) (hx : RelL m F xs ys) (off : Nat) : RelL m F (splice c off xs) (a.take off ++ ys ++ a.drop (off + ys.length)) := by
  unfold splice
  rw [← hx.1]
  exact ((hc.take off).append hx).append (hc.drop _)

def PartsRel (m : MMap) (F : FMap) (ps : List (Nat × AV)) (qs : List (Nat × Value)) : Prop :=
  ps.length = qs.length ∧ ∀ (i : Nat) p q, ps[i]? = some p → qs[i]? = some q → p.1 = q.1 ∧ VRel m F p.2 q.2

theorem fill_ok {place : Nat → Option (Nat × Nat)} : ∀ {ps : List (Nat × AV)} {qs : List (Nat × Value)} {cells r : List AV} {arr : Array Value}, PartsRel m F ps qs → RelL m F cells arr.toList →
    fillA place cells ps = some r → ∃ arr', Instr.fill place arr qs = some arr' ∧ RelL m F r arr'.toList
  | [], qs, cells, r, arr, hp, hc, h => by
    have : qs = [] := List.eq_nil_of_length_eq_zero hp.1.symm
    subst this
    cases h
    exact ⟨arr, rfl, hc⟩
  | (i, v) :: ps, [], cells, r, arr, hp, hc, h => by exact absurd hp.1 (by simp)
  | (i, v) :: ps, (i', x) :: qs, cells, r, arr, hp, hc, h => by
    obtain ⟨h1, h2⟩ := hp.2 0 _ _ rfl rfl
    simp only at h1 h2
    subst h1
    simp only [fillA] at h
    cases hpl : place i with
    | none => rw [hpl] at h; cases h
    | some p =>
      obtain ⟨off, size⟩ := p
      rw [hpl] at h
      simp only at h
      split at h
      · rename_i hcond
        have hxs : x.cells.size = size := by rw [h2.cells_length]; exact hcond.1
        have hal : cells.length = arr.size := by have := hc.1; simpa using this
        have hfold : x.cells.zipIdx.foldl (fun cs (c, j) => cs.setIfInBounds (off + j) c) arr = (arr.toList.take off ++ x.cells.toList ++ arr.toList.drop (off + x.cells.toList.length)).toArray := by
          have := foldl_set off x.cells.toList 0 arr (by simp; omega)
          simp only [Nat.add_zero] at this
          rw [← this, ← Array.foldl_toList, Array.toList_zipIdx]
        have hrel : RelL m F (splice cells off v.cells) (arr.toList.take off ++ x.cells.toList ++ arr.toList.drop (off + x.cells.toList.length)).toArray.toList := splice_rel hc h2.cells off
        obtain ⟨arr', h3, h4⟩ := fill_ok (ps := ps) (qs := qs) ⟨by have := hp.1; simpa using this, fun j p q hj hk => hp.2 (j + 1) p q (by simpa using hj) (by simpa using hk)⟩ hrel h
        refine ⟨arr', ?_, h4⟩
        simp only [Instr.fill, hpl]
        rw [if_neg (by simp; omega), hfold]
        exact h3
      · cases h

theorem evalParts_rel {ρ : Operand → Option AV} {ρc : Operand → Value} (hρ : ∀ x v, ρ x = some v → VRel m F v (ρc x)) {parts : List (Nat × Operand)} {ps : List (Nat × AV)} (h : evalParts ρ parts = some ps) :
    PartsRel m F ps (parts.map fun (i, x) => (i, ρc x)) := by
  unfold evalParts at h
  obtain ⟨h1, h2⟩ := mapO_some h
  refine ⟨by simp [h1], fun i p q hp hq => ?_⟩
  have hlt : i < parts.length := by rw [← h1]; exact (List.getElem?_eq_some_iff.1 hp).1
  have := h2 i _ p (List.getElem?_eq_getElem hlt) hp
  obtain ⟨v, hv, rfl⟩ := map_some' this
  rw [List.getElem?_map, List.getElem?_eq_getElem hlt] at hq
  cases hq
  exact ⟨rfl, hρ _ _ hv⟩

theorem fieldPlaces_run {t : TypeId} {places : List (Nat × Nat)} (h : fieldPlaces P t = some places) :
    ∃ fields, P.underlying t = some (.struct fields) ∧ (fields.mapM fun f => (do pure (f.offset, ← sizeOf f.type) : Sem (Nat × Nat))).run P w = .ok places.toArray w := by
  unfold fieldPlaces at h
  split at h
  · rename_i fields hu
    refine ⟨fields, hu, ?_⟩
    obtain ⟨h1, h2⟩ := mapO_some h
    have hh : ∀ f ∈ fields.toList, (do pure (f.offset, ← sizeOf f.type) : Sem (Nat × Nat)).run P w = .ok (f.offset, (tySize P f.type).getD 0) w := fun f hf => by
      obtain ⟨i, hi, rfl⟩ := List.getElem_of_mem hf
      have hi' : i < places.length := by rw [h1]; exact hi
      have := h2 i _ _ (List.getElem?_eq_getElem hi) (List.getElem?_eq_getElem hi')
      obtain ⟨n, hn, he⟩ := map_some' this
      simp only [Sem.run_bind, tySize_run hn, Result.andThen_ok, Sem.run_pure, hn, Option.getD_some]
    have := run_mapM (P := P) (w := w) fields.toList hh
    have he : fields.toList.map (fun f => (f.offset, (tySize P f.type).getD 0)) = places := by
      apply List.ext_getElem?
      intro i
      rw [List.getElem?_map]
      by_cases hi : i < fields.toList.length
      · have hi' : i < places.length := by rw [h1]; exact hi
        have h3 := h2 i _ _ (List.getElem?_eq_getElem hi) (List.getElem?_eq_getElem hi')
        obtain ⟨n, hn, he⟩ := map_some' h3
        rw [List.getElem?_eq_getElem hi, List.getElem?_eq_getElem hi', ← he]
        simp only [Option.map_some, hn, Option.getD_some]
      · rw [List.getElem?_eq_none (by omega), List.getElem?_eq_none (by omega)]
        rfl
    rw [he] at this
    rw [Array.mapM_eq_mapM_toList]
    simp only [Sem.run_map, this, Result.andThen_ok]
  · cases h

theorem build_ok {t : TypeId} {ps : List (Nat × AV)} {qs : List (Nat × Value)} {r : AV} (hp : PartsRel m F ps qs) (h : buildA P t ps = some r) :
    ∃ cv, (Instr.build t qs.toArray).run P w = .ok cv w ∧ VRel m F r cv := by
  unfold buildA at h
  split at h
  · rename_i z places hz hpl
    obtain ⟨cs, hcs, rfl⟩ := map_some' h
    obtain ⟨zv, hzr, hzrel, i, hi, hiz⟩ := zeroA_run hz
    obtain ⟨fields, hu, hrun⟩ := fieldPlaces_run (w := w) hpl
    have hpl' : (fun i : Nat => places[i]?) = (fun i : Nat => places.toArray[i]?) := by funext i; simp
    rw [hpl'] at hcs
    obtain ⟨arr', h1, h2⟩ := fill_ok hp (hzrel m F).cells hcs
    refine ⟨.agg arr', ?_, .agg _ _ h2.1 h2.2⟩
    simp only [Instr.build, Sem.run_bind, hzr, Result.andThen_ok, run_underlying hu]
    simp only [hrun, Result.andThen_ok, List.toList_toArray]
    rw [h1]
    rfl
  · cases h
end
end Go.Am
