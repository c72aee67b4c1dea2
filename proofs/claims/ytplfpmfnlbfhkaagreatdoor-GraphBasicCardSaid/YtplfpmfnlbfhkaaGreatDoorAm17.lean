/- Heaps side by side. -/
import Derived.Test.YtplfpmfnlbfhkaaGreatDoorAm16
set_option linter.unusedVariables false
set_option linter.unusedSimpArgs false
namespace Go.Am
open Go

section
variable {P : Program} {m m' m1 : MMap} {F F' F1 : FMap} {g g' g1 : Look} {w w' : World}

/-- No object there. -/
def Void (g : Look) (id : Nat) : Prop := g id = none ∨ g id = some .gone
/-- The same objects. -/
def GEq (g g' : Look) : Prop := ∀ id, g' id = g id ∨ (Void g id ∧ Void g' id)

theorem GEq.refl : GEq g g := fun _ => .inl rfl
theorem GEq.trans {g'' : Look} (h : GEq g g') (k : GEq g' g'') : GEq g g'' := by
  intro id
  rcases k id with h1 | ⟨h1, h2⟩
  · rcases h id with h3 | ⟨h3, h4⟩
    · exact .inl (h1.trans h3)
    · exact .inr ⟨h3, by unfold Void; rw [h1]; exact h4⟩
  · rcases h id with h3 | ⟨h3, h4⟩
    · exact .inr ⟨by unfold Void; rw [← h3]; exact h1, h2⟩
    · exact .inr ⟨h3, h2⟩

theorem Inv.congr (h : Inv m F g w) (e : GEq g g') : Inv m F g' w := by
  refine ⟨fun id o ho => ?_, h.inj, h.dom, fun id loc hl => ?_, h.froz⟩
  · rcases e id with h1 | ⟨h1, h2⟩
    · exact h.objs id o (h1 ▸ ho)
    · rcases h2 with h2 | h2
      · rw [h2] at ho; cases ho
      · rw [h2] at ho; cases ho; trivial
  · obtain ⟨o, h1, h2⟩ := h.live id loc hl
    rcases e id with h3 | ⟨h3, h4⟩
    · exact ⟨o, h3.trans h1, h2⟩
    · rcases h3 with h3 | h3
      · rw [h3] at h1; cases h1
      · rw [h3] at h1; cases h1; exact absurd rfl h2

theorem Inv.free (h : Inv m F g w) {id : Nat} (hv : Void g id) : m id = none := by
  cases hm : m id with
  | none => rfl
  | some loc =>
    obtain ⟨o, h1, h2⟩ := h.live id loc hm
    rcases hv with h3 | h3
    · rw [h3] at h1; cases h1
    · rw [h3] at h1; cases h1; exact absurd rfl h2

theorem upd_geq (h : GEq g g') (id : Nat) (o : AObj) : GEq (upd g id o) (upd g' id o) := by
  intro i
  unfold upd Void
  by_cases hi : i = id
  · simp [hi]
  · simp only [hi, if_false]; exact h i

theorem putH_geq (h : Heap) (p : Nat × AObj) : GEq (upd (look h) p.1 p.2) (look (putH h p)) := by
  intro i
  unfold putH
  by_cases hp : p.1 < h.length
  · rw [if_pos hp]
    refine .inl ?_
    simp only [upd, look, List.getElem?_set]
    by_cases hi : i = p.1
    · subst hi; simp [hp]
    · rw [if_neg hi, if_neg (fun e => hi e.symm)]
  · rw [if_neg hp]
    by_cases hi : i = p.1
    · subst hi
      refine .inl ?_
      simp only [upd, look, if_true]
      rw [List.getElem?_append_right (by omega), List.getElem?_append_right (by simp)]
      simp
    · simp only [upd, look, Void]
      rw [if_neg hi]
      by_cases h1 : i < h.length
      · exact .inl (List.getElem?_append_left h1)
      · rw [List.getElem?_append_right (by omega)]
        refine .inr ⟨.inl (List.getElem?_eq_none (by omega)), ?_⟩
        by_cases h2 : i < p.1
        · refine .inr ?_
          rw [List.getElem?_append_left (by rw [List.length_replicate]; omega), List.getElem?_replicate, if_pos (by omega)]
        · exact .inl (List.getElem?_eq_none (by simp; omega))

theorem updU_geq : ∀ (u : Ups) {g g' : Look}, GEq g g' → GEq (updU g u) (updU g' u)
  | [], _, _, h => h
  | p :: u, _, _, h => updU_geq u (upd_geq h p.1 p.2)

theorem applyU_geq : ∀ (u : Ups) (h : Heap), GEq (updU (look h) u) (look (applyU h u))
  | [], h => GEq.refl
  | p :: u, h => (updU_geq u (putH_geq h p)).trans (applyU_geq u (putH h p))

/-! ### Values in which nothing is an object's -/
theorem nfL_get : ∀ {l : List AV}, nfL l = true → ∀ (i : Nat) v, l[i]? = some v → v.nf = true
  | [], _, i, v, h => by simp at h
  | x :: xs, hl, i, v, h => by
    simp only [nfL, Bool.and_eq_true] at hl
    cases i with
    | zero => simp at h; subst h; exact hl.1
    | succ i => exact nfL_get hl.2 i v (by simpa using h)

theorem nf_cells {e : AV} (h : e.nf = true) : ∀ (j : Nat) c, e.cells[j]? = some c → c.nf = true := by
  intro j c hc
  cases e with
  | agg l => exact nfL_get (l := l) (by simpa only [AV.nf] using h) j c hc
  | _ =>
    simp only [AV.cells] at hc
    cases j with
    | zero => simp at hc; subst hc; exact h
    | succ j => simp at hc

theorem nf_rel {v : AV} {x : Value} (hv : VRel m F v x) : v.nf = true → VRel m1 F v x := by
  induction hv with
  | bool b => intro _; exact .bool b
  | int k n => intro _; exact .int k n
  | str s => intro _; exact .str s
  | row ex l a cap b o size vs hex hcap ha hs hF hv ih =>
    intro h
    simp only [AV.nf, Bool.and_eq_true] at h
    exact .row ex l a cap b o size vs hex hcap ha hs hF fun i e j c hi hj => ih i e j c hi hj (nf_cells (nfL_get h.2 i e hi) j c hj)
  | mrow id ver len loc b cap hm hle hc hcur => intro h; cases h
  | ptr id ver off loc b hm hle hcur => intro h; cases h
  | fptr cs b o vs hF hv ih => intro h; exact .fptr cs b o vs hF fun j c hj => ih j c hj (nfL_get (by simpa [AV.nf] using h) j c hj)
  | nilptr => intro _; exact .nilptr
  | map id loc hm h0 => intro h; cases h
  | nilmap => intro _; exact .nilmap
  | func f a b x y ha hb h1 h2 i1 i2 =>
    intro h
    simp only [AV.nf, Bool.and_eq_true] at h
    exact .func f a b x y ha hb (fun i u v hu hv => i1 i u v hu hv (nfL_get h.1 i u hu)) (fun i u v hu hv => i2 i u v hu hv (nfL_get h.2 i u hu))
  | nilfunc => intro _; exact .nilfunc
  | iface t v x hv ih => intro h; exact .iface t v x (ih (by simpa [AV.nf] using h))
  | niliface => intro _; exact .niliface
  | agg a x ha h1 ih => intro h; exact .agg a x ha fun i u v hu hv => ih i u v hu hv (nfL_get (by simpa [AV.nf] using h) i u hu)
  | tup a x ha h1 ih => intro h; exact .tup a x ha fun i u v hu hv => ih i u v hu hv (nfL_get (by simpa [AV.nf] using h) i u hu)

theorem nfL_rel {l : List AV} {x : List Value} (h : nfL l = true) (hr : RelL m F l x) : RelL m1 F l x :=
  ⟨hr.1, fun i u v hu hv => nf_rel (hr.2 i u v hu hv) (nfL_get h i u hu)⟩

/-! ### Other numbers -/
theorem shiftL_get {k : Nat} : ∀ {l : List AV} {i : Nat}, (shiftL k l)[i]? = (l[i]?).map (shiftV k)
  | [], i => rfl
  | v :: vs, i => by
    cases i with
    | zero => rfl
    | succ i => simpa [shiftL] using shiftL_get (l := vs) (i := i)
theorem shiftL_length {k : Nat} : ∀ {l : List AV}, (shiftL k l).length = l.length
  | [] => rfl
  | v :: vs => by simp [shiftL, shiftL_length (l := vs)]
theorem shiftL_map {k : Nat} : ∀ (l : List AV), shiftL k l = l.map (shiftV k)
  | [] => rfl
  | v :: vs => by simp [shiftL, shiftL_map vs]
theorem shift_cells {k : Nat} {e : AV} : (shiftV k e).cells = shiftL k e.cells := by
  cases e <;> rfl

theorem shift_rel {k : Nat} (hm : ∀ id loc, m1 id = some loc → m (k + id) = some loc) {v : AV} {x : Value} (hv : VRel m1 F v x) : VRel m F (shiftV k v) x := by
  induction hv with
  | bool b => exact .bool b
  | int k n => exact .int k n
  | str s => exact .str s
  | row ex l a cap b o size vs hex hcap ha hs hF hv ih =>
    have hlen : (shiftL k l).length = l.length := shiftL_length
    have back : ∀ (i : Nat) e, (shiftL k l)[i]? = some e → ∃ e0, l[i]? = some e0 ∧ e = shiftV k e0 := fun i e he => by
      rw [shiftL_get] at he
      obtain ⟨e0, h1, h2⟩ := map_some' he
      exact ⟨e0, h1, h2.symm⟩
    have backc : ∀ (e0 : AV) (j : Nat) c, (shiftV k e0).cells[j]? = some c → ∃ c0, e0.cells[j]? = some c0 ∧ c = shiftV k c0 := fun e0 j c hc => by
      rw [shift_cells, shiftL_get] at hc
      obtain ⟨c0, h1, h2⟩ := map_some' hc
      exact ⟨c0, h1, h2.symm⟩
    change VRel m F (.row ex (shiftL k l)) _
    rw [← hlen]
    refine .row ex _ a cap b o size vs (fun e => by rw [hlen]; exact hex e) (by rw [hlen]; exact hcap) (fun hne => ha (fun e => hne (by rw [e]; rfl))) (fun i e he => ?_) (fun i e j c he hc => ?_) (fun i e j c he hc => ?_)
    · obtain ⟨e0, h1, rfl⟩ := back i e he
      rw [shift_cells, shiftL_length]; exact hs i e0 h1
    · obtain ⟨e0, h1, rfl⟩ := back i e he
      obtain ⟨c0, h2, rfl⟩ := backc e0 j c hc
      exact hF i e0 j c0 h1 h2
    · obtain ⟨e0, h1, rfl⟩ := back i e he
      obtain ⟨c0, h2, rfl⟩ := backc e0 j c hc
      exact ih i e0 j c0 h1 h2
  | mrow id ver len loc b cap hl hle hc hcur => exact .mrow _ ver len loc b cap (hm id loc hl) hle hc hcur
  | ptr id ver off loc b hl hle hcur => exact .ptr _ ver off loc b (hm id loc hl) hle hcur
  | fptr cs b o vs hF hv ih =>
    refine .fptr _ b o vs (fun j c hj => ?_) (fun j c hj => ?_)
    · rw [shiftL_get] at hj
      obtain ⟨c0, h1, h2⟩ := map_some' hj
      exact hF j c0 h1
    · rw [shiftL_get] at hj
      obtain ⟨c0, h1, rfl⟩ := map_some' hj
      exact ih j c0 h1
  | nilptr => exact .nilptr
  | map id loc hl h0 => exact .map _ loc (hm id loc hl) h0
  | nilmap => exact .nilmap
  | func f a b x y ha hb h1 h2 i1 i2 =>
    refine .func f _ _ x y (shiftL_length.trans ha) (shiftL_length.trans hb) (fun i u v hu hv => ?_) (fun i u v hu hv => ?_)
    · rw [shiftL_get] at hu; obtain ⟨u0, h3, rfl⟩ := map_some' hu; exact i1 i u0 v h3 hv
    · rw [shiftL_get] at hu; obtain ⟨u0, h3, rfl⟩ := map_some' hu; exact i2 i u0 v h3 hv
  | nilfunc => exact .nilfunc
  | iface t v x hv ih => exact .iface t _ x ih
  | niliface => exact .niliface
  | agg a x ha h1 ih =>
    refine .agg _ x (shiftL_length.trans ha) fun i u v hu hv => ?_
    rw [shiftL_get] at hu; obtain ⟨u0, h3, rfl⟩ := map_some' hu; exact ih i u0 v h3 hv
  | tup a x ha h1 ih =>
    refine .tup _ x (shiftL_length.trans ha) fun i u v hu hv => ?_
    rw [shiftL_get] at hu; obtain ⟨u0, h3, rfl⟩ := map_some' hu; exact ih i u0 v h3 hv

theorem shiftL_rel {k : Nat} (hm : ∀ id loc, m1 id = some loc → m (k + id) = some loc) {l : List AV} {x : List Value} (hv : RelL m1 F l x) : RelL m F (l.map (shiftV k)) x := by
  refine ⟨by rw [List.length_map]; exact hv.1, fun i u v hu hx => ?_⟩
  rw [List.getElem?_map] at hu
  obtain ⟨u0, h3, rfl⟩ := map_some' hu
  exact shift_rel hm (hv.2 i u0 v h3 hx)

theorem shiftP_fst (k : Nat) : ∀ (l : List (AV × AV)), (shiftP k l).map (·.1) = (l.map (·.1)).map (shiftV k)
  | [] => rfl
  | (a, b) :: l => by simp [shiftP, shiftP_fst k l]
theorem shiftP_snd (k : Nat) : ∀ (l : List (AV × AV)), (shiftP k l).map (·.2) = (l.map (·.2)).map (shiftV k)
  | [] => rfl
  | (a, b) :: l => by simp [shiftP, shiftP_snd k l]

theorem shift_obj {k : Nat} {id : Nat} {o : AObj} (hm : ∀ id loc, m1 id = some loc → m (k + id) = some loc) (h : ObjAt m1 F w id o) : ObjAt m F w (k + id) (shiftO k o) := by
  cases o with
  | gone => trivial
  | cells sz ver fz c =>
    obtain ⟨loc, arr, e, h1, h2, h3, h4, h5, h6, h7, h8, h9⟩ := h
    refine ⟨loc, arr, e, hm id loc h1, h2, h3, h4, h5, h6, ?_, ?_, h9⟩
    · rw [shiftL_length]; exact h7
    · rw [shiftL_length, shiftL_map]; exact shiftL_rel hm h8
  | map es =>
    obtain ⟨loc, ces, clock, h1, h2, h3, h4, h5⟩ := h
    refine ⟨loc, ces, clock, hm id loc h1, h2, h3, ?_, ?_⟩
    · rw [shiftP_fst]; exact shiftL_rel hm h4
    · rw [shiftP_snd]; exact shiftL_rel hm h5

def noM : MMap := fun _ => none

theorem Inv.none (h : Inv m F g w) : Inv noM F (look []) w :=
  ⟨fun id o ho => (by simp [look] at ho), fun i j li lj hi => (by cases hi), fun id loc hl => (by cases hl), fun id loc hl => (by cases hl), h.froz⟩

theorem Ext.others (he : Ext noM F w m1 F1 w') {b : Nat} (hb : b < w.heap.size) : w'.heap[b]? = w.heap[b]? :=
  he.frame b hb fun id loc hl => by cases hl
theorem Ext.nofz (he : Ext noM F w m1 F1 w') {b j : Nat} (hb : b < w.heap.size) (hf : F b j = none) : F1 b j = none := by
  cases h1 : F1 b j with
  | none => rfl
  | some v =>
    rcases he.fnew b j v h1 with h2 | h2 | ⟨id, loc, h2, -⟩
    · rw [hf] at h2; cases h2
    · omega
    · cases h2

/-- What was done beside a heap: its answer holds nothing of its own. -/
theorem join_nf (hi : Inv m F g w) (h1 : Inv m1 F1 g1 w') (he : Ext noM F w m1 F1 w') {v : AV} {x : Value} (hv : VRel m1 F1 v x) (hn : v.nf = true) :
    VRel m F1 v x ∧ Inv m F1 g w' ∧ Ext m F w m F1 w' := by
  have hg : Grow m m F F1 := ⟨fun id loc hl => ⟨loc, hl, Nat.le_refl _, fun _ => rfl, fun _ => rfl⟩, he.grow.ff⟩
  refine ⟨nf_rel hv hn, ⟨fun id o ho => ?_, hi.inj, fun id loc hl => Nat.lt_of_lt_of_le (hi.dom id loc hl) he.size, hi.live, h1.froz⟩,
    ⟨hg, fun b j v hf => ?_, fun id loc hl => .inr ⟨loc, hl, rfl⟩, he.size, fun b hb _ => he.others hb, he.os, he.tape, he.output⟩⟩
  · exact (hi.objs id o ho).keep hg rfl fun loc hl => ⟨he.others (hi.dom id loc hl), fun j hj => he.nofz (hi.dom id loc hl) hj⟩
  · rcases he.fnew b j v hf with h2 | h2 | ⟨id, loc, h2, -⟩
    · exact .inl h2
    · exact .inr (.inl h2)
    · cases h2

def joinM (k : Nat) (m m1 : MMap) : MMap := fun id => if id < k then m id else m1 (id - k)

/-- The objects are put behind those that are there. -/
theorem join_objs {h h1 : Heap} (hi : Inv m F (look h) w) (k1 : Inv m1 F1 (look h1) w') (he : Ext noM F w m1 F1 w') {v : AV} {x : Value} (hv : VRel m1 F1 v x) :
    ∃ m', VRel m' F1 (shiftV h.length v) x ∧ Inv m' F1 (look (h ++ h1.map (shiftO h.length))) w' ∧ Ext m F w m' F1 w' := by
  have hlt : ∀ id loc, m id = some loc → id < h.length := fun id loc hl => by
    obtain ⟨o, ho, -⟩ := hi.live id loc hl
    exact (List.getElem?_eq_some_iff.1 ho).1
  have hmm : ∀ id loc, m1 id = some loc → joinM h.length m m1 (h.length + id) = some loc := fun id loc hl => by
    unfold joinM
    rw [if_neg (by omega), Nat.add_sub_cancel_left]; exact hl
  have hblk : ∀ id loc, m1 id = some loc → w.heap.size ≤ loc.block := fun id loc hl => by
    rcases he.mnew id loc hl with h2 | ⟨l0, h2, -⟩
    · exact h2
    · cases h2
  have hg : Grow m (joinM h.length m m1) F F1 := ⟨fun id loc hl => ⟨loc, by unfold joinM; rw [if_pos (hlt id loc hl)]; exact hl, Nat.le_refl _, fun _ => rfl, fun _ => rfl⟩, he.grow.ff⟩
  have hcase : ∀ id loc, joinM h.length m m1 id = some loc → (id < h.length ∧ m id = some loc) ∨ (h.length ≤ id ∧ m1 (id - h.length) = some loc) := fun id loc hl => by
    unfold joinM at hl
    split at hl
    · exact .inl ⟨by assumption, hl⟩
    · exact .inr ⟨by omega, hl⟩
  refine ⟨joinM h.length m m1, shift_rel hmm hv, ⟨fun id o ho => ?_, fun i j li lj hi1 hj1 hb => ?_, fun id loc hl => ?_, fun id loc hl => ?_, k1.froz⟩,
    ⟨hg, fun b j v hf => ?_, fun id loc hl => ?_, he.size, fun b hb _ => he.others hb, he.os, he.tape, he.output⟩⟩
  · simp only [look] at ho
    by_cases h2 : id < h.length
    · rw [List.getElem?_append_left h2] at ho
      exact (hi.objs id o ho).keep hg (by unfold joinM; rw [if_pos h2]) fun loc hl => ⟨he.others (hi.dom id loc hl), fun j hj => he.nofz (hi.dom id loc hl) hj⟩
    · rw [List.getElem?_append_right (by omega), List.getElem?_map] at ho
      obtain ⟨o0, h3, rfl⟩ := map_some' ho
      have := shift_obj (k := h.length) hmm (k1.objs _ o0 h3)
      rwa [show h.length + (id - h.length) = id by omega] at this
  · rcases hcase i li hi1 with ⟨a1, a2⟩ | ⟨a1, a2⟩ <;> rcases hcase j lj hj1 with ⟨b1, b2⟩ | ⟨b1, b2⟩
    · exact hi.inj i j li lj a2 b2 hb
    · have := hi.dom i li a2; have := hblk _ _ b2; omega
    · have := hi.dom j lj b2; have := hblk _ _ a2; omega
    · have := k1.inj _ _ li lj a2 b2 hb; omega
  · rcases hcase id loc hl with ⟨a1, a2⟩ | ⟨a1, a2⟩
    · exact Nat.lt_of_lt_of_le (hi.dom id loc a2) he.size
    · exact k1.dom _ loc a2
  · rcases hcase id loc hl with ⟨a1, a2⟩ | ⟨a1, a2⟩
    · obtain ⟨o, h2, h3⟩ := hi.live id loc a2
      exact ⟨o, by simp only [look]; rw [List.getElem?_append_left a1]; exact h2, h3⟩
    · obtain ⟨o, h2, h3⟩ := k1.live _ loc a2
      have h4 : h1[id - h.length]? = some o := h2
      refine ⟨shiftO h.length o, by simp only [look]; rw [List.getElem?_append_right a1, List.getElem?_map, h4]; rfl, ?_⟩
      cases o <;> simp [shiftO] at h3 ⊢
  · rcases he.fnew b j v hf with h2 | h2 | ⟨id, loc, h2, -⟩
    · exact .inl h2
    · exact .inr (.inl h2)
    · cases h2
  · rcases hcase id loc hl with ⟨a1, a2⟩ | ⟨a1, a2⟩
    · exact .inr ⟨loc, a2, rfl⟩
    · exact .inl (hblk _ _ a2)

theorem join_ok {r : AV × Heap} {h : Heap} (hi : Inv m F (look h) w) (k1 : Inv m1 F1 (look r.2) w') (he : Ext noM F w m1 F1 w') {x : Value} (hv : VRel m1 F1 r.1 x) :
    ∃ m', VRel m' F1 (joinA r h).1 x ∧ Inv m' F1 (look (joinA r h).2) w' ∧ Ext m F w m' F1 w' := by
  unfold joinA
  split
  · rename_i hn
    exact ⟨m, join_nf hi k1 he hv hn⟩
  · exact join_objs hi k1 he hv
end
end Go.Am
