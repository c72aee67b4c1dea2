/- Operations, one by one. Fifth part: conversions, literals. -/
import Derived.Test.YtplfpmfnlbfhkaaGreatDoorAm8
import Derived.Laws.IdiomStrings
import Derived.Laws.BytesArg
import Derived.Laws.AppendOwn
set_option linter.unusedVariables false
set_option linter.unusedSimpArgs false
namespace Go.Am
open Go

section
variable {P : Program} {m m' : MMap} {F F' : FMap} {g : Look} {w w' : World}

theorem flatMap_get (sz : Nat) : ∀ (l : List AV) (t : Nat) (c : AV), (∀ v ∈ l, v.cells.length = sz) → (l.flatMap AV.cells)[t]? = some c →
    ∃ i j e, t = i * sz + j ∧ l[i]? = some e ∧ e.cells[j]? = some c
  | [], t, c, _, h => by simp at h
  | v :: l, t, c, hl, h => by
    rw [List.flatMap_cons] at h
    have hv : v.cells.length = sz := hl v (by simp)
    by_cases ht : t < v.cells.length
    · rw [List.getElem?_append_left ht] at h
      exact ⟨0, t, v, by simp, rfl, h⟩
    · rw [List.getElem?_append_right (by omega)] at h
      obtain ⟨i, j, e, h1, h2, h3⟩ := flatMap_get sz l _ c (fun u hu => hl u (by simp [hu])) h
      exact ⟨i + 1, j, e, by rw [Nat.add_mul]; omega, h2, h3⟩
theorem flatMap_len (sz : Nat) : ∀ (l : List AV), (∀ v ∈ l, v.cells.length = sz) → (l.flatMap AV.cells).length = l.length * sz
  | [], _ => by simp
  | v :: l, h => by
    rw [List.flatMap_cons, List.length_append, flatMap_len sz l (fun u hu => h u (by simp [hu])), h v (by simp), List.length_cons, Nat.add_mul]
    omega
theorem all_len {sz : Nat} {l : List AV} (h : l.all (fun v => v.cells.length == sz) = true) : ∀ v ∈ l, v.cells.length = sz := fun v hv => by
  have := List.all_eq_true.1 h v hv
  simpa using this

theorem row_cells (hi : Inv m F g w) {ex : Bool} {l : List AV} {p : Value} (hx : VRel m F (.row ex l) p) {sz : Nat} (hall : ∀ v ∈ l, v.cells.length = sz) :
    ∃ a cap b o vs, p = .slice a l.length cap ∧ l.length ≤ cap ∧ (ex = true → cap = l.length) ∧ (l.length ≠ 0 → a = some ⟨b, o, none⟩) ∧ RelL m F (l.flatMap AV.cells) vs ∧
      vs.length = l.length * sz ∧ ∀ j y, vs[j]? = some y → w.cell? ⟨b, o + j, none⟩ = some y := by
  cases hx with
  | row _ _ a cap b o size vs hex hcap ha hs hF hv =>
    have hsize : l ≠ [] → size = sz := fun hne => by
      cases l with
      | nil => exact absurd rfl hne
      | cons v l => have h1 := hs 0 v rfl; have h2 := hall v (by simp); omega
    have hlen := flatMap_len sz l hall
    refine ⟨a, cap, b, o, (List.range (l.length * sz)).map fun t => (F b (o + t)).getD Go.undef, rfl, hcap, hex, fun hne => ha (fun e => hne (by rw [e]; rfl)), ?_, by simp, ?_⟩
    · refine RelL.of_get (by simp [hlen]) fun t c hc => ?_
      have hlt := (List.getElem?_eq_some_iff.1 hc).1
      obtain ⟨i, j, e, rfl, h2, h3⟩ := flatMap_get sz l t c hall hc
      have hne : l ≠ [] := by intro e'; subst e'; simp at h2
      have hf := hF i e j c h2 h3
      rw [hsize hne, Nat.add_assoc] at hf
      exact ⟨vs i j, by rw [List.getElem?_map, List.getElem?_range (by omega)]; simp [hf], hv i e j c h2 h3⟩
    · intro t y hy
      by_cases hlt : t < l.length * sz
      · simp [hlt] at hy
        have : t < (l.flatMap AV.cells).length := by omega
        obtain ⟨i, j, e, h1, h2, h3⟩ := flatMap_get sz l t _ hall (List.getElem?_eq_getElem this)
        have hne : l ≠ [] := by intro e'; subst e'; simp at h2
        have hf := hF i e j _ h2 h3
        rw [hsize hne, Nat.add_assoc, ← h1] at hf
        rw [hf] at hy
        simp at hy
        subst hy
        exact hi.froz _ _ _ hf
      · simp [hlt] at hy

/-- What a source of cells stands for. -/
theorem src_rel (hi : Inv m F g w) {x : AV} {p : Value} (hx : VRel m F x p) {sz k : Nat} {cs : List AV} (h : srcCells g sz x = some (cs, k)) :
    (∃ s, p = .string ⟨⟨s⟩⟩ ∧ k = s.length ∧ sz = 1 ∧ cs = s.map fun b => .int .u8 b.toNat) ∨
    (∃ a cap b o vs, p = .slice a k cap ∧ k ≤ cap ∧ (k ≠ 0 → a = some ⟨b, o, none⟩) ∧ RelL m F cs vs ∧ vs.length = k * sz ∧ ∀ j y, vs[j]? = some y → w.cell? ⟨b, o + j, none⟩ = some y) := by
  unfold srcCells at h
  split at h
  · split at h
    · rename_i h1; cases h; cases hx; exact .inl ⟨_, rfl, rfl, h1, rfl⟩
    · cases h
  · split at h
    · rename_i h1
      cases h
      obtain ⟨a, cap, b, o, vs, h2, h3, -, h4, h5, h6, h7⟩ := row_cells hi hx (all_len h1)
      exact .inr ⟨a, cap, b, o, vs, h2, h3, h4, h5, h6, h7⟩
    · cases h
  · cases hx with
    | mrow id ver len loc b cap hm hle hc hcur =>
    split at h
    · rename_i sz' ver' fz c hg
      split at h
      · rename_i h1
        obtain ⟨hv, hs, hl⟩ := h1
        cases h
        obtain ⟨l1, arr, e, h1, h2, h3, h4, h5, h6, h7, h8, h9⟩ := hi.objs _ _ hg
        rw [hm] at h1; cases h1
        have hb := (hcur (by omega)).1
        subst hb
        refine .inr ⟨_, cap, loc.block, 0, (arr.toList.take c.length).take (k * sz), rfl, hc, fun _ => rfl, h8.take _, ?_, fun j y hy => ?_⟩
        · simp; omega
        · rw [List.getElem?_take] at hy
          split at hy
          · rw [List.getElem?_take] at hy
            split at hy
            · simp only [World.cell?, h5]; simpa using hy
            · cases hy
          · cases hy
      · cases h
    · cases h
  · cases h

theorem byteOf_rel {c : AV} {v : Value} {b : UInt8} (hr : VRel m F c v) (h : byteOf c = some b) : ∃ n, v = .int .u8 n ∧ b = UInt8.ofNat n.toNat := by
  unfold byteOf at h
  split at h
  · cases h; cases hr; exact ⟨_, rfl, rfl⟩
  · cases h

theorem bytes_nums {cs : List AV} {vs : List Value} {bs : List UInt8} (hr : RelL m F cs vs) (h : mapO byteOf cs = some bs) :
    ∃ xs : List Int, vs = xs.map (Value.int .u8) ∧ bs = xs.map fun n => UInt8.ofNat n.toNat := by
  induction cs generalizing vs bs with
  | nil => cases h; rw [hr.nil_left]; exact ⟨[], rfl, rfl⟩
  | cons c cs ih =>
    obtain ⟨v, vs, rfl, h1, h2⟩ := hr.cons_left
    simp only [mapO] at h
    cases hb : byteOf c with
    | none => rw [hb] at h; cases h
    | some b =>
      rw [hb] at h
      cases hbs : mapO byteOf cs with
      | none => rw [hbs] at h; cases h
      | some bs' =>
        rw [hbs] at h
        cases h
        obtain ⟨n, rfl, rfl⟩ := byteOf_rel h1 hb
        obtain ⟨xs, rfl, rfl⟩ := ih h2 hbs
        exact ⟨n :: xs, rfl, rfl⟩

theorem convert_ok (hi : Inv m F g w) {src dst : TypeId} {x r : AV} {p : Value} (hx : VRel m F x p) (h : convertA P g src dst x = some r) :
    ∃ cv w' F', (convert src dst p).run P w = .ok cv w' ∧ VRel m F' r cv ∧ Inv m F' g w' ∧ Ext m F w m F' w' := by
  unfold convertA at h
  split at h
  · cases h
  · rename_i hsrc
    obtain ⟨ds, hds⟩ : ∃ ds, P.underlying src = some ds := by
      cases hp : P.underlying src with
      | none => rw [hp] at hsrc; exact absurd rfl hsrc
      | some d => exact ⟨d, rfl⟩
    split at h
    · rename_i k k' n hd
      cases h; cases hx
      exact ⟨_, w, F, by simp only [convert, run_underlying hds, run_underlying hd, Conv.intToInt, Sem.run_bind, Result.andThen_ok]; rfl, .int _ _, hi, Ext.refl⟩
    · rename_i k n hd
      cases h; cases hx
      exact ⟨.string (Utf8.encode n), w, F, by simp [convert, run_underlying hds, run_underlying hd, Conv.intToString], .str _, hi, Ext.refl⟩
    · rename_i s hd
      cases h; cases hx
      exact ⟨.string ⟨⟨s⟩⟩, w, F, by simp [convert, run_underlying hds, run_underlying hd], .str _, hi, Ext.refl⟩
    · rename_i e s hd
      split at h
      · rename_i he hs
        cases h; cases hx
        have hrun := run_bytes_of_string (P := P) w src dst e ⟨⟨s⟩⟩ hs hd he
        obtain ⟨h1, h2⟩ := (hi.drew (w.drawn + 1)).rowNew (bytesRow ⟨⟨s⟩⟩ (grownCap w (ByteArray.mk ⟨s⟩).size 0 e)) e
          ((bytesRow ⟨⟨s⟩⟩ (grownCap w (ByteArray.mk ⟨s⟩).size 0 e)).size, (bytesRow ⟨⟨s⟩⟩ (grownCap w (ByteArray.mk ⟨s⟩).size 0 e)).size + 1)
        refine ⟨_, _, _, hrun, ?_, h1, (Ext.drew _).trans h2⟩
        have hcap := grownCap_ge w (ByteArray.mk ⟨s⟩).size 0 e
        have hsz : (ByteArray.mk ⟨s⟩).size = s.length := rfl
        have hl : (s.map fun b => AV.int .u8 b.toNat).length = s.length := by simp
        rw [hsz] at hcap
        rw [hsz, ← hl]
        have hget : ∀ (i : Nat) (e : AV), (s.map fun b => AV.int .u8 b.toNat)[i]? = some e → ∃ b, s[i]? = some b ∧ e = .int .u8 b.toNat := fun i e he => by
          rw [List.getElem?_map] at he
          obtain ⟨b, h1, h2⟩ := map_some' he
          exact ⟨b, h1, h2.symm⟩
        refine .row false _ _ _ w.heap.size 0 1 (fun i _ => .int .u8 (s.getD i 0).toNat) (fun e => by cases e) (by rw [hl]; exact hcap) (fun _ => rfl) (fun i e he => ?_) (fun i e j c he hj => ?_) (fun i e j c he hj => ?_)
        · obtain ⟨b, -, rfl⟩ := hget i e he; rfl
        · obtain ⟨b, hb, rfl⟩ := hget i e he
          have hj0 : j = 0 := by
            have := (List.getElem?_eq_some_iff.1 hj).1
            simp [AV.cells] at this; exact this
          subst hj0
          have hlt := (List.getElem?_eq_some_iff.1 hb).1
          show (if w.heap.size = w.heap.size then _ else _) = _
          rw [if_pos rfl]
          simp only [bytesRow, Nat.zero_add, Nat.mul_one, Nat.add_zero]
          rw [Array.getElem?_append_left (by simpa using hlt)]
          simp [List.getD, hb]
        · obtain ⟨b, hb, rfl⟩ := hget i e he
          have hj0 : j = 0 := by
            have := (List.getElem?_eq_some_iff.1 hj).1
            simp [AV.cells] at this; exact this
          subst hj0
          simp [AV.cells] at hj
          subst hj
          rw [show (s.getD i 0) = b by simp [List.getD, hb]]
          exact .int _ _
      · cases h
    · rename_i hd hn1 hn2
      split at h
      · rename_i e he
        split at h
        · rename_i hu8
          split at h
          · rename_i cs k hcs
            obtain ⟨bs, hbs, rfl⟩ := map_some' h
            have hs := elemTy_und he
            rcases src_rel hi hx hcs with ⟨s, rfl, -⟩ | ⟨a, cap, b, o, vs, rfl, hk, ha, hr, hl, hcell⟩
            · cases hx
              exact absurd rfl (hn2 _)
            · obtain ⟨xs, rfl, rfl⟩ := bytes_nums hr hbs
              refine ⟨.string (strOfNums xs), w, F, ?_, .str _, hi, Ext.refl⟩
              by_cases hk0 : k = 0
              · subst hk0
                have hx0 : xs = [] := List.eq_nil_of_length_eq_zero (by simpa using hl)
                subst hx0
                cases a with
                | none => exact run_convert_bytes_nil w src e hs hu8 0 cap dst hd
                | some a => exact run_convert_bytes_back w src dst e a cap [] hs hu8 hd (fun j hj => by simp at hj)
              · rw [ha hk0]
                refine run_convert_bytes_arg w src e hs hu8 b o k cap xs (by simpa using hl) (fun i hi => ?_) dst hd
                have hlx : xs.length = k := by simpa using hl
                refine hcell i _ ?_
                rw [List.getElem?_map, List.getElem?_eq_getElem (by omega)]
                simp [List.getD, List.getElem?_eq_getElem (show i < xs.length by omega)]
          · cases h
        · cases h
      · cases h
    · cases h
end
end Go.Am
