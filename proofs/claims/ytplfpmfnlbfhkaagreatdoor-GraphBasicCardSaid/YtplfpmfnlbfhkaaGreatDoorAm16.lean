/- Freezing. -/
import Derived.Test.YtplfpmfnlbfhkaaGreatDoorAm15
set_option linter.unusedVariables false
set_option linter.unusedSimpArgs false
namespace Go.Am
open Go

section
variable {P : Program} {m m' : MMap} {F F' : FMap} {g g' : Look} {w w' : World}

/-- Some objects have more frozen cells than they had. -/
def Iced (g g' : Look) : Prop := ∀ id, g' id = g id ∨ ∃ sz ver fz fz' c, g id = some (.cells sz ver fz c) ∧ g' id = some (.cells sz ver fz' c) ∧ fz ≤ fz'

theorem Iced.refl : Iced g g := fun id => .inl rfl

theorem look_mark (h : Heap) (p : Nat × Nat) : Iced (look h) (look (markH h p)) := by
  intro id
  unfold markH
  split
  · rename_i sz ver fz c hg
    by_cases hid : id = p.1
    · subst hid
      have hlt : p.1 < h.length := (List.getElem?_eq_some_iff.1 hg).1
      refine .inr ⟨sz, ver, fz, max fz p.2, c, hg, ?_, Nat.le_max_left _ _⟩
      simp [look, List.getElem?_set, hlt]
    · refine .inl ?_
      simp only [look]
      rw [List.getElem?_set, if_neg (fun e => hid e.symm)]
  · exact .inl rfl

theorem Iced.trans {g'' : Look} (h : Iced g g') (k : Iced g' g'') : Iced g g'' := by
  intro id
  rcases h id with h1 | ⟨sz, ver, fz, fz', c, h1, h2, h3⟩
  · rcases k id with k1 | ⟨sz, ver, fz, fz', c, k1, k2, k3⟩
    · exact .inl (k1.trans h1)
    · exact .inr ⟨sz, ver, fz, fz', c, h1 ▸ k1, k2, k3⟩
  · rcases k id with k1 | ⟨sz2, ver2, fz2, fz2', c2, k1, k2, k3⟩
    · exact .inr ⟨sz, ver, fz, fz', c, h1, k1.trans h2, h3⟩
    · rw [h2] at k1; cases k1
      exact .inr ⟨sz, ver, fz, fz2', c, h1, k2, Nat.le_trans h3 k3⟩

theorem marks_iced : ∀ (l : List (Nat × Nat)) (h : Heap), Iced (look h) (look (marksH h l))
  | [], h => Iced.refl
  | p :: l, h => (look_mark h p).trans (marks_iced l (markH h p))

theorem markH_length (h : Heap) (p : Nat × Nat) : (markH h p).length = h.length := by
  unfold markH; split <;> simp
theorem marksH_length : ∀ (l : List (Nat × Nat)) (h : Heap), (marksH h l).length = h.length
  | [], h => rfl
  | p :: l, h => (marksH_length l (markH h p)).trans (markH_length h p)

/-- What is marked has so many frozen cells. -/
theorem marks_mem : ∀ (l : List (Nat × Nat)) (h : Heap) (p : Nat × Nat), p ∈ l → ∀ sz ver fz c, (look h) p.1 = some (.cells sz ver fz c) → ∃ fz', look (marksH h l) p.1 = some (.cells sz ver fz' c) ∧ p.2 ≤ fz'
  | q :: l, h, p, hp, sz, ver, fz, c, hg => by
    rcases List.mem_cons.1 hp with rfl | hp
    · have hlt : p.1 < h.length := (List.getElem?_eq_some_iff.1 hg).1
      have h1 : look (markH h p) p.1 = some (.cells sz ver (max fz p.2) c) := by
        unfold markH
        have : h[p.1]? = some (.cells sz ver fz c) := hg
        rw [this]
        simp [look, List.getElem?_set, hlt]
      rcases marks_iced l (markH h p) p.1 with h2 | ⟨sz2, ver2, fz2, fz2', c2, h2, h3, h4⟩
      · exact ⟨max fz p.2, h2.trans h1, Nat.le_max_right _ _⟩
      · rw [h1] at h2; cases h2
        exact ⟨fz2', h3, Nat.le_trans (Nat.le_max_right _ _) h4⟩
    · rcases look_mark h q p.1 with h2 | ⟨sz2, ver2, fz2, fz2', c2, h2, h3, h4⟩
      · exact marks_mem l (markH h q) p hp sz ver fz c (h2.trans hg)
      · rw [hg] at h2; cases h2
        exact marks_mem l (markH h q) p hp sz ver fz2' c h3

open Classical in
/-- The frozen cells, those of the objects among them. -/
noncomputable def iceF (m : MMap) (F : FMap) (g' : Look) (w : World) : FMap := fun b j =>
  match F b j with
  | some v => some v
  | none => if ∃ id loc sz ver fz c, m id = some loc ∧ g' id = some (.cells sz ver fz c) ∧ loc.block = b ∧ j < fz then w.cell? ⟨b, j, none⟩ else none

theorem Inv.ice (hi : Inv m F g w) (hg : Iced g g') : Inv m (iceF m F g' w) g' w ∧ Ext m F w m (iceF m F g' w) w ∧
    ∀ id loc sz ver fz c, m id = some loc → g' id = some (.cells sz ver fz c) → ∀ j, j < fz → iceF m F g' w loc.block j = w.cell? ⟨loc.block, j, none⟩ := by
  have hff : ∀ b j v, F b j = some v → iceF m F g' w b j = some v := fun b j v hf => by simp only [iceF, hf]
  have hgrow : Grow m m F (iceF m F g' w) := ⟨fun i l hl => ⟨l, hl, Nat.le_refl _, fun _ => rfl, fun _ => rfl⟩, hff⟩
  have hnew : ∀ b j v, iceF m F g' w b j = some v → F b j = some v ∨ (F b j = none ∧ w.cell? ⟨b, j, none⟩ = some v ∧ ∃ id loc sz ver fz c, m id = some loc ∧ g' id = some (.cells sz ver fz c) ∧ loc.block = b ∧ j < fz) := by
    intro b j v h
    unfold iceF at h
    cases hf : F b j with
    | some u => rw [hf] at h; exact .inl h
    | none =>
      rw [hf] at h
      simp only at h
      split at h
      · rename_i hex; exact .inr ⟨rfl, h, hex⟩
      · cases h
  refine ⟨⟨fun id o ho => ?_, hi.inj, hi.dom, fun id loc hl => ?_, fun b j v hf => ?_⟩, ⟨hgrow, fun b j v hf => ?_, fun id loc hl => .inr ⟨loc, hl, rfl⟩, Nat.le_refl _, fun _ _ _ => rfl, rfl, rfl, rfl⟩, ?_⟩
  · have key : ∀ o0, g id = some o0 → (o0 = o ∨ ∃ sz ver fz fz' c, o0 = .cells sz ver fz c ∧ o = .cells sz ver fz' c ∧ fz ≤ fz') → ObjAt m (iceF m F g' w) w id o := by
      intro o0 hg0 hoo
      have hob := hi.objs id o0 hg0
      rcases hoo with rfl | ⟨sz, ver, fz, fz', c, rfl, rfl, hle⟩
      · cases o0 with
        | gone => trivial
        | map es =>
          obtain ⟨loc, ces, clock, h1, h2, h3, h4, h5⟩ := hob
          exact ⟨loc, ces, clock, h1, h2, h3, h4.mono hgrow, h5.mono hgrow⟩
        | cells sz ver fz c =>
          obtain ⟨loc, arr, e, h1, h2, h3, h4, h5, h6, h7, h8, h9⟩ := hob
          refine ⟨loc, arr, e, h1, h2, h3, h4, h5, h6, h7, h8.mono hgrow, fun j hj => ?_⟩
          cases hf : iceF m F g' w loc.block j with
          | none => rfl
          | some v =>
            rcases hnew _ _ _ hf with h | ⟨-, -, id2, l2, sz2, ver2, fz2, c2, k1, k2, k3, k4⟩
            · rw [h9 j hj] at h; cases h
            · have := hi.inj id2 id l2 loc k1 h1 k3
              subst this
              rw [ho] at k2; cases k2
              omega
      · obtain ⟨loc, arr, e, h1, h2, h3, h4, h5, h6, h7, h8, h9⟩ := hob
        refine ⟨loc, arr, e, h1, h2, h3, h4, h5, h6, h7, h8.mono hgrow, fun j hj => ?_⟩
        cases hf : iceF m F g' w loc.block j with
        | none => rfl
        | some v =>
          rcases hnew _ _ _ hf with h | ⟨-, -, id2, l2, sz2, ver2, fz2, c2, k1, k2, k3, k4⟩
          · rw [h9 j (by omega)] at h; cases h
          · have := hi.inj id2 id l2 loc k1 h1 k3
            subst this
            rw [ho] at k2; cases k2
            omega
    rcases hg id with h1 | ⟨sz, ver, fz, fz', c, h1, h2, h3⟩
    · exact key o (h1 ▸ ho) (.inl rfl)
    · rw [h2] at ho; cases ho
      exact key _ h1 (.inr ⟨sz, ver, fz, fz', c, rfl, rfl, h3⟩)
  · obtain ⟨o, h1, h2⟩ := hi.live id loc hl
    rcases hg id with h3 | ⟨sz, ver, fz, fz', c, h3, h4, h5⟩
    · exact ⟨o, h3.trans h1, h2⟩
    · exact ⟨_, h4, by simp⟩
  · rcases hnew _ _ _ hf with h | ⟨-, h, -⟩
    · exact hi.froz _ _ _ h
    · exact h
  · rcases hnew _ _ _ hf with h | ⟨-, -, id2, l2, sz2, ver2, fz2, c2, k1, k2, k3, k4⟩
    · exact .inl h
    · exact .inr (.inr ⟨id2, l2, k1, k3⟩)
  · intro id loc sz ver fz c h1 h2 j hj
    unfold iceF
    cases hf : F loc.block j with
    | some v => simp only [hi.froz _ _ _ hf]
    | none => simp only; rw [if_pos ⟨id, loc, sz, ver, fz, c, h1, h2, rfl, hj⟩]

theorem frvL_get {rec : AV → Option AV} : ∀ {l r : List AV}, frvL g rec l = some r → r.length = l.length ∧ ∀ (i : Nat) x, l[i]? = some x → ∃ y, r[i]? = some y ∧ frv0 g rec x = some y
  | [], r, h => by simp [frvL] at h; subst h; exact ⟨rfl, fun i x hx => by simp at hx⟩
  | v :: vs, r, h => by
    simp only [frvL] at h
    cases h1 : frv0 g rec v with
    | none => rw [h1] at h; cases h
    | some a =>
      rw [h1] at h
      cases h2 : frvL g rec vs with
      | none => rw [h2] at h; cases h
      | some as =>
        rw [h2] at h
        cases h
        obtain ⟨h3, h4⟩ := frvL_get h2
        refine ⟨by simp [h3], fun i x hx => ?_⟩
        cases i with
        | zero => simp at hx; subst hx; exact ⟨a, rfl, h1⟩
        | succ i => simp at hx; simpa using h4 i x hx

theorem frmL_mem {recm : AV → List (Nat × Nat)} : ∀ {l : List AV} {x : AV}, x ∈ l → ∀ p ∈ frm0 g recm x, p ∈ frmL g recm l
  | v :: vs, x, hx, p, hp => by
    simp only [frmL, List.mem_append]
    rcases List.mem_cons.1 hx with rfl | hx
    · exact .inl hp
    · exact .inr (frmL_mem hx p hp)

theorem frv0_cells {rec : AV → Option AV} {e e' : AV} (h : frv0 g rec e = some e') : e'.cells.length = e.cells.length ∧ ∀ (j : Nat) c, e.cells[j]? = some c → ∃ c', e'.cells[j]? = some c' ∧ frv0 g rec c = some c' := by
  have one : (∀ cs, e ≠ .agg cs) → (∀ cs, e' ≠ .agg cs) → e'.cells.length = e.cells.length ∧ ∀ (j : Nat) c, e.cells[j]? = some c → ∃ c', e'.cells[j]? = some c' ∧ frv0 g rec c = some c' := by
    intro h1 h2
    have e1 : e.cells = [e] := by cases e <;> first | rfl | exact absurd rfl (h1 _)
    have e2 : e'.cells = [e'] := by cases e' <;> first | rfl | exact absurd rfl (h2 _)
    rw [e1, e2]
    refine ⟨rfl, fun j c hc => ?_⟩
    cases j with
    | zero => simp at hc; subst hc; exact ⟨e', rfl, h⟩
    | succ j => simp at hc
  cases e with
  | agg l =>
    simp only [frv0] at h
    cases h1 : frvL g rec l with
    | none => rw [h1] at h; cases h
    | some l' =>
      rw [h1] at h; cases h
      obtain ⟨h2, h3⟩ := frvL_get h1
      exact ⟨h2, h3⟩
  | mrow id ver len =>
    refine one (fun cs e => by cases e) (fun cs e => ?_)
    subst e
    simp only [frv0] at h
    split at h
    · split at h
      · split at h
        · split at h <;> cases h
        · cases h
      · cases h
    · cases h
  | row ex l =>
    refine one (fun cs e => by cases e) (fun cs e => ?_)
    subst e
    simp only [frv0] at h
    split at h <;> cases h
  | tup l =>
    refine one (fun cs e => by cases e) (fun cs e => ?_)
    subst e
    simp only [frv0] at h
    split at h <;> cases h
  | iface t v =>
    refine one (fun cs e => by cases e) (fun cs e => ?_)
    subst e
    simp only [frv0] at h
    split at h <;> cases h
  | _ => simp only [frv0] at h; cases h; exact one (fun cs e => by cases e) (fun cs e => by cases e)

/-- 'k' cells of an object are frozen. -/
def Cov (m : MMap) (F' : FMap) (w : World) (p : Nat × Nat) : Prop := ∀ loc, m p.1 = some loc → ∀ j, j < p.2 → ∀ y, w.cell? ⟨loc.block, j, none⟩ = some y → F' loc.block j = some y

theorem frv0_rel (hi : Inv m F g w) (hg : Grow m m F F') {rec : AV → Option AV} {recm : AV → List (Nat × Nat)}
    (hrec : ∀ c y c', VRel m F c y → rec c = some c' → (∀ p ∈ recm c, Cov m F' w p) → VRel m F' c' y) {v : AV} {x : Value} (hv : VRel m F v x) :
    ∀ v', frv0 g rec v = some v' → (∀ p ∈ frm0 g recm v, Cov m F' w p) → VRel m F' v' x := by
  induction hv with
  | bool b => intro v' h _; simp only [frv0] at h; cases h; exact .bool b
  | int k n => intro v' h _; simp only [frv0] at h; cases h; exact .int k n
  | str s => intro v' h _; simp only [frv0] at h; cases h; exact .str s
  | row ex l a cap b o size vs hex hcap ha hs hF hv ih =>
    intro v' h hp
    simp only [frv0] at h
    split at h
    · rename_i l' hl
      cases h
      obtain ⟨h1, h2⟩ := frvL_get hl
      rw [← h1]
      have back : ∀ (i : Nat) e', l'[i]? = some e' → ∃ e, l[i]? = some e ∧ frv0 g rec e = some e' := fun i e' he' => by
        have hlt : i < l.length := by rw [← h1]; exact (List.getElem?_eq_some_iff.1 he').1
        obtain ⟨y, hy, hr⟩ := h2 i _ (List.getElem?_eq_getElem hlt)
        rw [he'] at hy; cases hy
        exact ⟨_, List.getElem?_eq_getElem hlt, hr⟩
      have backc : ∀ (i : Nat) e' (j : Nat) c', l'[i]? = some e' → e'.cells[j]? = some c' → ∃ e c, l[i]? = some e ∧ e.cells[j]? = some c ∧ frv0 g rec c = some c' := fun i e' j c' he' hc' => by
        obtain ⟨e, he, hr⟩ := back i e' he'
        obtain ⟨h3, h4⟩ := frv0_cells hr
        have hlt : j < e.cells.length := by rw [← h3]; exact (List.getElem?_eq_some_iff.1 hc').1
        obtain ⟨y, hy, hr2⟩ := h4 j _ (List.getElem?_eq_getElem hlt)
        rw [hc'] at hy; cases hy
        exact ⟨e, _, he, List.getElem?_eq_getElem hlt, hr2⟩
      refine .row false l' a cap b o size vs (fun e => by cases e) (by rw [h1]; exact hcap) (fun hne => ha (fun e => hne (List.eq_nil_of_length_eq_zero (by rw [h1, e]; rfl)))) (fun i e' he' => ?_) (fun i e' j c' he' hc' => ?_) (fun i e' j c' he' hc' => ?_)
      · obtain ⟨e, he, hr⟩ := back i e' he'
        rw [(frv0_cells hr).1]; exact hs i e he
      · obtain ⟨e, c, he, hc, -⟩ := backc i e' j c' he' hc'
        exact hg.ff _ _ _ (hF i e j c he hc)
      · obtain ⟨e, c, he, hc, hr⟩ := backc i e' j c' he' hc'
        refine ih i e j c he hc c' hr fun p hp' => hp p ?_
        have h5 : ∀ q ∈ frm0 g recm c, q ∈ frm0 g recm e := by
          intro q hq
          cases e with
          | agg cs => exact frmL_mem (List.mem_of_getElem? hc) q hq
          | _ =>
            simp only [AV.cells] at hc
            cases j with
            | zero => simp at hc; subst hc; exact hq
            | succ j => simp at hc
        exact frmL_mem (List.mem_of_getElem? he) p (h5 p hp')
    · cases h
  | mrow id ver len loc b cap hm hle hc hcur =>
    intro v' h hp
    simp only [frv0] at h
    split at h
    · rename_i sz ver' fz c hgid
      split at h
      · rename_i hcond
        obtain ⟨hver, hsz, hlc⟩ := hcond
        split at h
        · rename_i cs hcs
          split at h
          · rename_i hflat
            cases h
            obtain ⟨l1, arr, e, h1, h2, h3, h4, h5, h6, h7, h8, h9⟩ := hi.objs _ _ hgid
            have e1 : loc = l1 := by rw [hm] at h1; exact Option.some.inj h1
            subst e1
            obtain ⟨hb, hcp⟩ := hcur (by omega)
            subst hb hcp
            obtain ⟨k1, k2⟩ := mapO_some hcs
            have hcl : cs.length = len * sz := by rw [k1, List.length_take]; omega
            have hpm : (id, len * sz) ∈ frm0 g recm (.mrow id ver len) := by simp only [frm0, hgid]; exact List.mem_cons_self
            have hcov := hp _ hpm loc hm
            have hget : ∀ (i : Nat) c', cs[i]? = some c' → ∃ c0, c[i]? = some c0 ∧ rec c0 = some c' ∧ ∃ y, arr[i]? = some y ∧ VRel m F c0 y := fun i c' hc' => by
              have hlt : i < (c.take (len * sz)).length := by rw [← k1]; exact (List.getElem?_eq_some_iff.1 hc').1
              have h10 := k2 i _ c' (List.getElem?_eq_getElem hlt) hc'
              have hci : c[i]? = some (c.take (len * sz))[i] := by
                have := List.getElem?_eq_getElem hlt
                rw [List.getElem?_take] at this
                split at this
                · exact this
                · cases this
              obtain ⟨y, hy, hr⟩ := h8.get hci
              rw [List.getElem?_take] at hy
              split at hy
              · rw [Array.getElem?_toList] at hy
                exact ⟨_, hci, h10, y, hy, hr⟩
              · cases hy
            refine row_of_cells hsz false (vs := fun i => arr.getD i Go.undef) hcl hflat (fun i c' hc' => ?_) (fun i c' hc' => ?_) hc (fun e => by cases e)
            · obtain ⟨c0, -, -, y, hy, -⟩ := hget i c' hc'
              have hlt : i < len * sz := by rw [← hcl]; exact (List.getElem?_eq_some_iff.1 hc').1
              have : arr.getD i Go.undef = y := by simp [hy]
              rw [this]
              exact hcov i hlt y (by simp only [World.cell?, h5]; simpa using hy)
            · obtain ⟨c0, hc0, hrc, y, hy, hr⟩ := hget i c' hc'
              have : arr.getD i Go.undef = y := by simp [hy]
              rw [this]
              refine hrec c0 y c' hr hrc fun p hp' => hp p ?_
              simp only [frm0, hgid]
              refine List.mem_cons_of_mem _ (List.mem_flatMap.2 ⟨c0, ?_, hp'⟩)
              have hlt : i < len * sz := by rw [← hcl]; exact (List.getElem?_eq_some_iff.1 hc').1
              exact List.mem_of_getElem? (i := i) (by rw [List.getElem?_take, if_pos hlt]; exact hc0)
          · cases h
        · cases h
      · cases h
    · cases h
  | ptr id ver off loc b hm hle hcur => intro v' h _; simp only [frv0] at h; cases h; exact VRel.mono hg (.ptr id ver off loc b hm hle hcur)
  | fptr cs b o vs hF hv ih => intro v' h _; simp only [frv0] at h; cases h; exact VRel.mono hg (.fptr cs b o vs hF hv)
  | nilptr => intro v' h _; simp only [frv0] at h; cases h; exact .nilptr
  | map id loc hm h0 => intro v' h _; simp only [frv0] at h; cases h; exact .map id loc hm h0
  | nilmap => intro v' h _; simp only [frv0] at h; cases h; exact .nilmap
  | func f a b x y ha hb h1 h2 i1 i2 => intro v' h _; simp only [frv0] at h; cases h; exact VRel.mono hg (.func f a b x y ha hb h1 h2)
  | nilfunc => intro v' h _; simp only [frv0] at h; cases h; exact .nilfunc
  | iface t v x hv ih =>
    intro v' h hp
    simp only [frv0] at h
    split at h
    · rename_i v2 hv2
      cases h
      exact .iface t v2 x (ih v2 hv2 hp)
    · cases h
  | niliface => intro v' h _; simp only [frv0] at h; cases h; exact .niliface
  | agg a x ha h1 ih =>
    intro v' h hp
    simp only [frv0] at h
    split at h
    · rename_i l' hl
      cases h
      obtain ⟨h2, h3⟩ := frvL_get hl
      refine .agg l' x (h2.trans ha) fun i u v hu hv => ?_
      have hlt : i < a.length := by rw [← h2]; exact (List.getElem?_eq_some_iff.1 hu).1
      obtain ⟨y, hy, hr⟩ := h3 i _ (List.getElem?_eq_getElem hlt)
      rw [hu] at hy; cases hy
      exact ih i _ v (List.getElem?_eq_getElem hlt) hv u hr fun p hp' => hp p (frmL_mem (List.getElem_mem hlt) p hp')
    · cases h
  | tup a x ha h1 ih =>
    intro v' h hp
    simp only [frv0] at h
    split at h
    · rename_i l' hl
      cases h
      obtain ⟨h2, h3⟩ := frvL_get hl
      refine .tup l' x (h2.trans ha) fun i u v hu hv => ?_
      have hlt : i < a.length := by rw [← h2]; exact (List.getElem?_eq_some_iff.1 hu).1
      obtain ⟨y, hy, hr⟩ := h3 i _ (List.getElem?_eq_getElem hlt)
      rw [hu] at hy; cases hy
      exact ih i _ v (List.getElem?_eq_getElem hlt) hv u hr fun p hp' => hp p (frmL_mem (List.getElem_mem hlt) p hp')
    · cases h

theorem frv_rel (hi : Inv m F g w) (hg : Grow m m F F') : ∀ (n : Nat) (c : AV) (y : Value) (c' : AV), VRel m F c y → frv g n c = some c' → (∀ p ∈ frm g n c, Cov m F' w p) → VRel m F' c' y
  | 0, c, y, c', _, h, _ => by cases h
  | n + 1, c, y, c', hv, h, hp => frv0_rel hi hg (frv_rel hi hg n) hv c' h hp

/-- Values are frozen: the same values stand for them. -/
theorem freeze_ok {h : Heap} (hi : Inv m F (look h) w) {marks : List (Nat × Nat)} :
    ∃ F', Inv m F' (look (marksH h marks)) w ∧ Ext m F w m F' w ∧ ∀ p ∈ marks, ∀ sz ver fz c, look h p.1 = some (.cells sz ver fz c) → Cov m F' w p := by
  obtain ⟨h1, h2, h3⟩ := hi.ice (marks_iced marks h)
  refine ⟨_, h1, h2, fun p hp sz ver fz c hgp loc hl j hj y hy => ?_⟩
  obtain ⟨fz', h4, h5⟩ := marks_mem marks h p hp sz ver fz c hgp
  rw [h3 p.1 loc sz ver fz' c hl h4 j (by omega)]
  exact hy
end
end Go.Am
