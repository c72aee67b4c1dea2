/- The objects of the evaluator in a world; how they go on from world to world. -/
import Derived.Test.YtplfpmfnlbfhkaaGreatDoorAm3
set_option linter.unusedVariables false
set_option linter.unusedSimpArgs false
namespace Go.Am
open Go

def ObjAt (m : MMap) (F : FMap) (w : World) (id : Nat) : AObj → Prop
  | .gone => True
  | .cells sz ver fz c => ∃ loc arr e, m id = some loc ∧ loc.mp = false ∧ loc.ver = ver ∧ loc.size = sz ∧ w.heap[loc.block]? = some (.cells arr e (0, 0)) ∧
      loc.cap * sz ≤ arr.size ∧ c.length ≤ arr.size ∧ RelL m F c (arr.toList.take c.length) ∧ ∀ j, fz ≤ j → F loc.block j = none
  | .map es => ∃ loc ces clock, m id = some loc ∧ loc.mp = true ∧ w.heap[loc.block]? = some (.map ces clock) ∧
      RelL m F (es.map (·.1)) (ces.toList.map (·.key)) ∧ RelL m F (es.map (·.2)) (ces.toList.map (·.val))

structure Inv (m : MMap) (F : FMap) (g : Look) (w : World) : Prop where
  objs : ∀ id o, g id = some o → ObjAt m F w id o
  inj : ∀ i j li lj, m i = some li → m j = some lj → li.block = lj.block → i = j
  dom : ∀ id loc, m id = some loc → loc.block < w.heap.size
  live : ∀ id loc, m id = some loc → ∃ o, g id = some o ∧ o ≠ .gone
  froz : ∀ b j v, F b j = some v → w.cell? ⟨b, j, none⟩ = some v

structure Ext (m : MMap) (F : FMap) (w : World) (m' : MMap) (F' : FMap) (w' : World) : Prop where
  grow : Grow m m' F F'
  fnew : ∀ b j v, F' b j = some v → F b j = some v ∨ w.heap.size ≤ b ∨ ∃ id loc, m id = some loc ∧ loc.block = b
  mnew : ∀ id loc, m' id = some loc → w.heap.size ≤ loc.block ∨ ∃ loc0, m id = some loc0 ∧ loc0.block = loc.block
  size : w.heap.size ≤ w'.heap.size
  frame : ∀ b, b < w.heap.size → (∀ id loc, m id = some loc → loc.block ≠ b) → w'.heap[b]? = w.heap[b]?
  os : w'.os = w.os
  tape : w'.tape = w.tape
  output : w'.output = w.output

section
variable {m m' m'' : MMap} {F F' F'' : FMap} {g : Look} {w w' w'' : World}

theorem Ext.refl : Ext m F w m F w :=
  ⟨Grow.refl, fun _ _ _ h => .inl h, fun id loc h => .inr ⟨loc, h, rfl⟩, Nat.le_refl _, fun _ _ _ => rfl, rfl, rfl, rfl⟩

theorem Ext.trans (h : Ext m F w m' F' w') (k : Ext m' F' w' m'' F'' w'') : Ext m F w m'' F'' w'' := by
  refine ⟨h.grow.trans k.grow, fun b j v hf => ?_, fun id loc hl => ?_, Nat.le_trans h.size k.size, fun b hb hn => ?_,
    k.os.trans h.os, k.tape.trans h.tape, k.output.trans h.output⟩
  · rcases k.fnew b j v hf with h1 | h1 | ⟨id, loc, h1, h2⟩
    · exact h.fnew b j v h1
    · exact .inr (.inl (Nat.le_trans h.size h1))
    · rcases h.mnew id loc h1 with h3 | ⟨l0, h3, h4⟩
      · exact .inr (.inl (by omega))
      · exact .inr (.inr ⟨id, l0, h3, by omega⟩)
  · rcases k.mnew id loc hl with h1 | ⟨l0, h1, h2⟩
    · exact .inl (Nat.le_trans h.size h1)
    · rcases h.mnew id l0 h1 with h3 | ⟨l1, h3, h4⟩
      · exact .inl (by omega)
      · exact .inr ⟨l1, h3, by omega⟩
  · rw [k.frame b (Nat.lt_of_lt_of_le hb h.size) (fun id loc hl e => ?_), h.frame b hb hn]
    rcases h.mnew id loc hl with h1 | ⟨l0, h1, h2⟩
    · omega
    · exact hn id l0 h1 (by omega)

theorem RelL.mono (hg : Grow m m' F F') {a : List AV} {x : List Value} (h : RelL m F a x) : RelL m' F' a x :=
  ⟨h.1, fun i u v hu hv => (h.2 i u v hu hv).mono hg⟩

theorem ObjAt.keep {id : Nat} {o : AObj} (h : ObjAt m F w id o) (hg : Grow m m' F F') (hm : m' id = m id)
    (hb : ∀ loc, m id = some loc → w'.heap[loc.block]? = w.heap[loc.block]? ∧ ∀ j, F loc.block j = none → F' loc.block j = none) : ObjAt m' F' w' id o := by
  cases o with
  | gone => trivial
  | cells sz ver fz c =>
    obtain ⟨loc, arr, e, h1, h2, h3, h4, h5, h6, h7, h8, h9⟩ := h
    exact ⟨loc, arr, e, hm.trans h1, h2, h3, h4, (hb loc h1).1.trans h5, h6, h7, h8.mono hg, fun j hj => (hb loc h1).2 j (h9 j hj)⟩
  | map es =>
    obtain ⟨loc, ces, clock, h1, h2, h3, h4, h5⟩ := h
    exact ⟨loc, ces, clock, hm.trans h1, h2, (hb loc h1).1.trans h3, h4.mono hg, h5.mono hg⟩

def upd (g : Look) (id : Nat) (o : AObj) : Look := fun i => if i = id then some o else g i
def updM (m : MMap) (id : Nat) (loc : Loc) : MMap := fun i => if i = id then some loc else m i

theorem cell_of_block {b : Nat} (h : w'.heap[b]? = w.heap[b]?) (j : Nat) : w'.cell? ⟨b, j, none⟩ = w.cell? ⟨b, j, none⟩ := by
  simp only [World.cell?, h]

theorem Inv.fblock (h : Inv m F g w) {b j : Nat} {v : Value} (hf : F b j = some v) : b < w.heap.size := by
  have := h.froz b j v hf
  simp only [World.cell?] at this
  rcases Nat.lt_or_ge b w.heap.size with h1 | h1
  · exact h1
  · rw [Array.getElem?_eq_none h1] at this; cases this

theorem Inv.fnone (h : Inv m F g w) {b : Nat} (hb : w.heap.size ≤ b) (j : Nat) : F b j = none := by
  cases hf : F b j with
  | none => rfl
  | some v => have := h.fblock hf; omega

/-- One object, new or old, is written; all others stay. -/
theorem Inv.put (h : Inv m F g w) (id : Nat) (loc' : Loc) (o' : AObj) (hgone : o' ≠ .gone)
    (hm : ∀ loc, m id = some loc → loc.ver ≤ loc'.ver ∧ (loc'.ver = loc.ver → loc' = loc) ∧ (loc.mp = true → loc' = loc))
    (hblk : w.heap.size ≤ loc'.block ∨ ∃ loc, m id = some loc ∧ loc.block = loc'.block)
    (hlt : loc'.block < w'.heap.size) (hsize : w.heap.size ≤ w'.heap.size)
    (hframe : ∀ b, b < w.heap.size → (∀ loc, m id = some loc → loc.block ≠ b) → w'.heap[b]? = w.heap[b]?)
    (hfz : ∀ loc j v, m id = some loc → F loc.block j = some v → w'.cell? ⟨loc.block, j, none⟩ = some v)
    (hw : w'.os = w.os ∧ w'.tape = w.tape ∧ w'.output = w.output)
    (ho : Grow m (updM m id loc') F F → ObjAt (updM m id loc') F w' id o') :
    Inv (updM m id loc') F (upd g id o') w' ∧ Ext m F w (updM m id loc') F w' := by
  have hgrow : Grow m (updM m id loc') F F := by
    refine ⟨fun i l hl => ?_, fun _ _ _ hf => hf⟩
    by_cases hi : i = id
    · subst hi
      exact ⟨loc', by simp [updM], (hm l hl).1, (hm l hl).2.1, (hm l hl).2.2⟩
    · exact ⟨l, by simp [updM, hi, hl], Nat.le_refl _, fun _ => rfl, fun _ => rfl⟩
  have hne : ∀ i l, i ≠ id → m i = some l → l.block ≠ loc'.block := by
    intro i l hi hl e
    rcases hblk with h1 | ⟨l0, h1, h2⟩
    · have := h.dom i l hl; omega
    · exact hi (h.inj i id l l0 hl h1 (by omega))
  refine ⟨⟨fun i o hi => ?_, fun i j li lj hi hj e => ?_, fun i l hl => ?_, fun i l hl => ?_, fun b j v hf => ?_⟩,
    ⟨hgrow, fun _ _ _ hf => .inl hf, fun i l hl => ?_, hsize, fun b hb hn => hframe b hb fun l hl => hn id l hl, hw.1, hw.2.1, hw.2.2⟩⟩
  · by_cases hid : i = id
    · subst hid
      simp only [upd, if_true] at hi
      cases hi
      exact ho hgrow
    · simp only [upd, hid, if_false] at hi
      refine (h.objs i o hi).keep hgrow (by simp [updM, hid]) fun l hl => ⟨hframe _ (h.dom i l hl) fun l0 hl0 e => hid (h.inj i id l l0 hl hl0 e.symm), fun _ hf => hf⟩
  · simp only [updM] at hi hj
    by_cases h1 : i = id <;> by_cases h2 : j = id
    · exact h1.trans h2.symm
    · simp [h1] at hi; simp [h2] at hj
      subst hi
      exact absurd e.symm (hne j lj h2 hj)
    · simp [h1] at hi; simp [h2] at hj
      subst hj
      exact absurd e (hne i li h1 hi)
    · simp [h1] at hi; simp [h2] at hj
      exact h.inj i j li lj hi hj e
  · simp only [updM] at hl
    split at hl
    · cases hl; exact hlt
    · exact Nat.lt_of_lt_of_le (h.dom i l hl) hsize
  · simp only [updM] at hl
    by_cases hi : i = id
    · exact ⟨o', by simp [upd, hi], hgone⟩
    · simp only [hi, if_false] at hl
      obtain ⟨o, h1, h2⟩ := h.live i l hl
      exact ⟨o, by simp [upd, hi, h1], h2⟩
  · by_cases hb : ∃ loc, m id = some loc ∧ loc.block = b
    · obtain ⟨l, h1, h2⟩ := hb
      subst h2
      exact hfz l j v h1 hf
    · rw [cell_of_block (hframe b (h.fblock hf) fun l hl e => hb ⟨l, hl, e⟩) j]
      exact h.froz b j v hf
  · simp only [updM] at hl
    split at hl
    · rename_i hi
      cases hl
      subst hi
      exact hblk
    · exact .inr ⟨l, hl, rfl⟩

/-- A new block whose cells nobody will write. -/
theorem Inv.rowNew (h : Inv m F g w) (arr : Array Value) (e : TypeId) (fr : Nat × Nat) :
    Inv m (fun b j => if b = w.heap.size then arr[j]? else F b j) g (w.alloc (.cells arr e fr)) ∧
      Ext m F w m (fun b j => if b = w.heap.size then arr[j]? else F b j) (w.alloc (.cells arr e fr)) := by
  have hgrow : Grow m m F (fun b j => if b = w.heap.size then arr[j]? else F b j) := by
    refine ⟨fun i l hl => ⟨l, hl, Nat.le_refl _, fun _ => rfl, fun _ => rfl⟩, fun b j v hf => ?_⟩
    have := h.fblock hf
    show (if b = w.heap.size then arr[j]? else F b j) = some v
    rw [if_neg (by omega)]; exact hf
  have hold : ∀ b, b < w.heap.size → (w.alloc (.cells arr e fr)).heap[b]? = w.heap[b]? := fun b hb => RowKit.Below.heap_alloc w _ b hb
  have hnew : (w.alloc (.cells arr e fr)).heap[w.heap.size]? = some (.cells arr e fr) := by
    show (w.heap.push _)[w.heap.size]? = _
    simp
  refine ⟨⟨fun i o hi => (h.objs i o hi).keep hgrow rfl fun l hl => ⟨hold _ (h.dom i l hl), fun j hf => ?_⟩, h.inj, fun i l hl => ?_, h.live, fun b j v hf => ?_⟩,
    ⟨hgrow, fun b j v hf => ?_, fun i l hl => .inr ⟨l, hl, rfl⟩, by simp, fun b hb _ => hold b hb, rfl, rfl, rfl⟩⟩
  · have := h.dom i l hl
    show (if l.block = w.heap.size then arr[j]? else F l.block j) = none
    rw [if_neg (by omega)]; exact hf
  · have := h.dom i l hl
    simp; omega
  · by_cases hb : b = w.heap.size
    · subst hb
      simp only [if_true] at hf
      simp only [World.cell?, hnew]
      simpa using hf
    · simp only [hb, if_false] at hf
      rw [cell_of_block (hold b (h.fblock hf)) j]
      exact h.froz b j v hf
  · by_cases hb : b = w.heap.size
    · exact .inr (.inl (by omega))
    · simp only [hb, if_false] at hf
      exact .inl hf

/-- The world goes on by draws alone. -/
theorem Inv.drew (h : Inv m F g w) (n : Nat) : Inv m F g { w with drawn := n } :=
  ⟨fun i o hi => (h.objs i o hi).keep Grow.refl rfl fun l hl => ⟨rfl, fun _ hf => hf⟩, h.inj, h.dom, h.live, h.froz⟩
theorem Ext.drew (n : Nat) : Ext m F w m F { w with drawn := n } :=
  ⟨Grow.refl, fun _ _ _ h => .inl h, fun id loc h => .inr ⟨loc, h, rfl⟩, Nat.le_refl _, fun _ _ _ => rfl, rfl, rfl, rfl⟩
end
end Go.Am
