/- Operations, one by one. Eighth part: slice literals, maps. -/
import Derived.Test.YtplfpmfnlbfhkaaGreatDoorAm11
import Derived.Maps.Own
set_option linter.unusedVariables false
set_option linter.unusedSimpArgs false
namespace Go.Am
open Go

section
variable {P : Program} {m m' : MMap} {F F' : FMap} {g : Look} {w w' : World}

theorem chunk_spec (sz : Nat) (hsz : sz ≠ 0) : ∀ (n : Nat) (cs : List AV), cs.length = n * sz → cs.all AV.flat = true →
    (chunk sz n cs).length = n ∧ ∀ (i : Nat) e, (chunk sz n cs)[i]? = some e → e.cells.length = sz ∧ ∀ (j : Nat) c, e.cells[j]? = some c → cs[i * sz + j]? = some c
  | 0, cs, hl, hf => by simp [chunk]
  | n + 1, cs, hl, hf => by
    have hl' : cs.length = n * sz + sz := by rw [hl, Nat.succ_mul]
    simp only [chunk]
    split
    · rename_i h1
      subst h1
      cases cs with
      | nil => simp at hl'
      | cons c cs =>
        simp only [List.take_succ_cons, List.take_zero, List.drop_succ_cons, List.drop_zero, List.cons_append, List.nil_append]
        simp only [List.all_cons, Bool.and_eq_true] at hf
        obtain ⟨h1, h2⟩ := chunk_spec 1 hsz n cs (by simp at hl'; omega) hf.2
        refine ⟨by simp [h1], fun i e he => ?_⟩
        cases i with
        | zero =>
          simp at he
          subst he
          have hc : c.cells = [c] := by
            cases c <;> first | rfl | (simp [AV.flat] at hf; done)
          rw [hc]
          refine ⟨rfl, fun j d hd => ?_⟩
          cases j with
          | zero => simpa using hd
          | succ j => simp at hd
        | succ i =>
          simp at he
          obtain ⟨h3, h4⟩ := h2 i e he
          refine ⟨h3, fun j d hd => ?_⟩
          have := h4 j d hd
          rw [show (i + 1) * 1 + j = (i * 1 + j) + 1 by omega]
          simpa using this
    · obtain ⟨h1, h2⟩ := chunk_spec sz hsz n (cs.drop sz) (by rw [List.length_drop]; omega) (by
        rw [List.all_eq_true] at hf ⊢
        exact fun x hx => hf x (List.mem_of_mem_drop hx))
      refine ⟨by simp [h1], fun i e he => ?_⟩
      cases i with
      | zero =>
        simp at he
        subst he
        refine ⟨by simp [AV.cells]; omega, fun j d hd => ?_⟩
        simp only [AV.cells] at hd
        rw [List.getElem?_take] at hd
        split at hd
        · simpa using hd
        · cases hd
      | succ i =>
        simp at he
        obtain ⟨h3, h4⟩ := h2 i e he
        refine ⟨h3, fun j d hd => ?_⟩
        have := h4 j d hd
        rw [List.getElem?_drop] at this
        rw [show (i + 1) * sz + j = sz + (i * sz + j) by rw [Nat.succ_mul]; omega]
        exact this

/-- Cells that nobody writes, as a row. -/
theorem row_of_cells {b sz n cap : Nat} (hsz : sz ≠ 0) (ex : Bool) {cs : List AV} {vs : Nat → Value} (hl : cs.length = n * sz) (hf : cs.all AV.flat = true)
    (hF : ∀ (i : Nat) c, cs[i]? = some c → F b i = some (vs i)) (hv : ∀ (i : Nat) c, cs[i]? = some c → VRel m F c (vs i)) (hcap : n ≤ cap) (hex : ex = true → cap = n) :
    VRel m F (.row ex (chunk sz n cs)) (.slice (some ⟨b, 0, none⟩) n cap) := by
  obtain ⟨h1, h2⟩ := chunk_spec sz hsz n cs hl hf
  have := VRel.row (m := m) (F := F) ex (chunk sz n cs) (some ⟨b, 0, none⟩) cap b 0 sz (fun i j => vs (i * sz + j)) (fun e => by rw [h1]; exact hex e) (by rw [h1]; exact hcap) (fun _ => rfl)
    (fun i e he => (h2 i e he).1) (fun i e j c he hj => by rw [Nat.zero_add]; exact hF _ c ((h2 i e he).2 j c hj)) (fun i e j c he hj => hv _ c ((h2 i e he).2 j c hj))
  rw [h1] at this
  exact this

theorem buildSlice_ok (hi : Inv m F g w) {t : TypeId} {len : Nat} {ps : List (Nat × AV)} {qs : List (Nat × Value)} {r : AV} (hp : PartsRel m F ps qs) (h : buildSliceA P t len ps = some r) :
    ∃ cv w' F', (Instr.buildSlice t len qs.toArray).run P w = .ok cv w' ∧ VRel m F' r cv ∧ Inv m F' g w' ∧ Ext m F w m F' w' := by
  unfold buildSliceA at h
  split at h
  · rename_i e he
    have ht := elemTy_und he
    split at h
    · rename_i sz z hs hz
      split at h
      · rename_i hc
        obtain ⟨hzc, hsz, hlim⟩ := hc
        split at h
        · rename_i cs hcs
          split at h
          · rename_i hflat
            cases h
            obtain ⟨zv, hzr, hzrel, i, hi', hiz⟩ := zeroA_run hz
            have hzs : zv.cells.size = sz := by rw [(hzrel (fun _ => none) (fun _ _ => none)).cells_length]; exact hzc
            have hrr := reps_rel (m := m) (F := F) (hzrel m F).cells len len (Nat.le_refl _)
            have hrl : (reps len z.cells).length = len * sz := by rw [reps_len, hzc]
            rw [List.take_of_length_le (by rw [hrl, hzs]; simp)] at hrr
            obtain ⟨arr', h1, h2⟩ := fill_ok hp hrr hcs
            have hfl : ∀ {ps : List (Nat × AV)} {c r : List AV} {pl : Nat → Option (Nat × Nat)}, fillA pl c ps = some r → r.length = c.length := by
              intro ps
              induction ps with
              | nil => intro c r pl h; cases h; rfl
              | cons p ps ih =>
                intro c r pl h
                obtain ⟨i, v⟩ := p
                simp only [fillA] at h
                split at h
                · cases h
                · split at h
                  · rename_i hcond
                    rw [ih h, splice_length _ _ _ (by omega)]
                  · cases h
            have hcl : cs.length = len * sz := by rw [hfl hcs, hrl]
            obtain ⟨h5, h6⟩ := hi.rowNew arr' e (0, 0)
            refine ⟨.slice (some ⟨w.heap.size, 0, none⟩) len len, _, _, ?_, ?_, h5, h6⟩
            · have hz0 : (if len * sz = 0 then pure #[] else (do pure (← zeroValue e).cells : Sem (Array Value))).run P w = .ok (if len * sz = 0 then #[] else zv.cells) w := by
                split
                · rfl
                · simp only [Sem.run_bind, hzr, Result.andThen_ok, Sem.run_pure]
              have harr : ((Array.range (len * sz)).map ((if len * sz = 0 then #[] else zv.cells)[· % (if len * sz = 0 then #[] else zv.cells).size]!)) = (Array.range (len * zv.cells.size)).map (zv.cells[· % zv.cells.size]!) := by
                rw [hzs]
                split
                · rename_i h0; rw [h0]; simp
                · rw [hzs]
              have hlim' : ¬ len * sz > 2 ^ 24 := by omega
              have hpl : (fun i => some (i * sz, sz)) = (fun i : Nat => some (i * sz, sz)) := rfl
              simp only [Instr.buildSlice, Sem.run_bind, run_underlying ht, Result.andThen_ok, tySize_run hs, hlim', if_false, List.toList_toArray]
              by_cases h0 : len * sz = 0
              · simp only [h0, if_true, Sem.run_bind, Sem.run_pure, Result.andThen_ok] at harr ⊢
                rw [harr, h1]
                rfl
              · simp only [h0, if_false, Sem.run_bind, Sem.run_pure, Result.andThen_ok, hzr] at harr ⊢
                rw [harr, h1]
                rfl
            · refine row_of_cells hsz true (vs := fun i => arr'.getD i Go.undef) hcl hflat (fun i c hc => ?_) (fun i c hc => ?_) (Nat.le_refl _) (fun _ => rfl)
              · obtain ⟨v, hv, -⟩ := h2.get hc
                show (if w.heap.size = w.heap.size then arr'[i]? else F w.heap.size i) = _
                rw [if_pos rfl]
                simp at hv
                simp [hv]
              · obtain ⟨v, hv, hr⟩ := h2.get hc
                simp at hv
                have : arr'.getD i Go.undef = v := by simp [hv]
                rw [this]
                exact hr.mono h6.grow
          · cases h
        · cases h
      · cases h
    · cases h
  · cases h
end
end Go.Am
