/- Functions that are told by a rule of their own: slices.Clone; IndexByteString; a deferred 'recover' where nothing panics. -/
import Derived.Test.YtplfpmfnlbfhkaaGreatDoorAm24
import Derived.Test.YtplfpmfnlbfhkaaGreatDoorAmI
import Derived.Recover
import Derived.Laws.StandIn
import Derived.WalkSpells
set_option linter.unusedVariables false
set_option linter.unusedSimpArgs false
namespace Go.Am
open Go

section
variable {P : Program} {m m' : MMap} {F F' : FMap} {w w' : World} {S : Nat → AV} {G : Look} {d : List (FuncId × List AV)} {n : Nat} {a : Act}

theorem wp_regionL {id : Nat} {ops : Array Oper} {Q : Exit → Act → World → Prop} (h : wpList P ops Q ops.toList a w) : (Code.region id ops false).wp P Q a w := by
  refine wp_region ?_
  have := wpOps_eq_wpList (P := P) (ops := ops) (Q := Q) ops.toList 0 (fun j => by simp)
  rw [List.range_eq_range']
  simp only [Array.length_toList] at this
  rw [this]
  exact h

theorem wpList_do {ops : Array Oper} {o : Oper} {rest : List Oper} {Q : Exit → Act → World → Prop} (hg : o.guard = none) (h : o.wp P a w (wpList P ops Q rest) Q) : wpList P ops Q (o :: rest) a w := by
  simp only [wpList]
  rw [if_pos (by simp [Region.wanted, hg])]
  exact .inl h

theorem opV_step {ops : Array Oper} {o : Oper} {rest : List Oper} {Q : Exit → Act → World → Prop} (hv : VFr P m F S G d n a w) {nid : Nat} (hm : m nid = none) {v : AV} {u : Ups}
    (ho : opA P o nid (opV S) G = some (v, u)) (hd : ∀ t, o.dst = some t → t < n) (hg : o.guard = none)
    (hK : ∀ m' F' a' w', VFr P m' F' (putV S o.dst v) (updU G u) d n a' w' → Ext m F w m' F' w' → wpList P ops Q rest a' w') : wpList P ops Q (o :: rest) a w := by
  refine wpList_do hg ?_
  obtain ⟨cv, w', m', F', hdo, hvr, hi, he⟩ := opA_ok (ρc := a.eval) hv.inv hm (fun x v hx => hv.opv hx) ho
  have h2 := (hv.move hi he).put hvr hd
  unfold Oper.wp
  rcases hdo with hdo | ⟨hdo, rfl⟩
  · rw [hdo, Oper.upon_value]; exact hK _ _ _ _ h2 he
  · rw [hdo, Oper.upon_skip]; exact hK _ _ _ _ h2 he

theorem opV_assign {ops : Array Oper} {o : Oper} {rest : List Oper} {Q : Exit → Act → World → Prop} (hv : VFr P m F S G d n a w) {x : Operand} (ho : o.op = .assign x) {v : AV}
    (hx : opV S x = some v) (hd : ∀ t, o.dst = some t → t < n) (hg : o.guard = none)
    (hK : ∀ a', VFr P m F (putV S o.dst v) G d n a' w → wpList P ops Q rest a' w) : wpList P ops Q (o :: rest) a w := by
  refine wpList_do hg ?_
  unfold Oper.wp
  have hrun : (execOp a.eval o).run P w = .ok (.value (a.eval x)) w := by
    unfold execOp
    rw [ho]
    exact Sem.run_pure ..
  rw [hrun, Oper.upon_value]
  exact hK _ (hv.put (hv.opv hx) hd)

/-- Where a function is entered. -/
theorem VFr.enter {args : List AV} {x : Array Value} (hi : Inv m F G w) (h : RelL m F args x.toList) (k : Nat) :
    VFr P m F (sget args) G [] (x.size + k) { tmps := x ++ Array.replicate k Go.undef, defers := [] } w :=
  ⟨hi, SRel.enter h k, by simp, .nil⟩

theorem slice_nil_run {T e : TypeId} (hT : P.underlying T = some (.slice e)) (p : Option Addr) (k c : Nat) (x y : Operand) (w : World) :
    (do eqGuard .eql T x y (.slice p k c) (.slice none 0 0); binOp .eql T (.slice p k c) (.slice none 0 0) : Sem Value).run P w = .ok (.bool p.isNone) w := by
  have hg : (eqGuard .eql T x y (.slice p k c) (.slice none 0 0)).run P w = .ok () w := eqGuard_ok fun _ => ⟨by simp, by simp⟩
  have he : (Op.equal T (.slice p k c) (.slice none 0 0)).run P w = .ok p.isNone w := by
    rw [equal_eq, Op.equalIn]
    cases p <;> simp [run_underlying hT]
  simp only [Sem.run_bind, hg, Result.andThen_ok, binOp, he, Sem.run_pure]

def opKey (o : Oper) : Option Tmp × Op × Option (Nat × Bool) := (o.dst, o.op, o.guard)
def nilC : Operand := .const (.slice none 0 0)

/-- A function has slices.Clone's make, at a type of slices. -/
structure CloneIs (fn : Func) (T : TypeId) : Prop where
  body : ∃ (i0 i1 i2 i3 : Nat) (o0 p0 p1 q0 r0 r1 r2 r3 : Oper),
    fn.body = some (.seq (.region i0 #[o0] false) (.seq (.seq (.region i1 #[p0, p1] false) (.cond (.tmp 4) (.seq (.region i2 #[q0] false) .ret) .skip)) (.seq (.region i3 #[r0, r1, r2, r3] false) .ret))) ∧
    opKey o0 = (some 2, .assign nilC, none) ∧ opKey p0 = (some 3, .move (.tmp 0), none) ∧ opKey p1 = (some 4, .binOp .eql T (.tmp 3) nilC T, none) ∧ opKey q0 = (some 2, .assign nilC, none) ∧
    opKey r0 = (some 5, .buildSlice T 0 #[], none) ∧ opKey r1 = (some 6, .move (.tmp 0), none) ∧ opKey r2 = (some 7, .call { callee := .builtin .append, args := #[.tmp 5, .tmp 6], argTypes := #[T, T] }, none) ∧ opKey r3 = (some 2, .assign (.tmp 7), none)
  res : fn.results = #[.tmp 2]
  nt : fn.ntmps = 8

/-- What a type of slices must be, for it. -/
structure CloneTy (P : Program) (T : TypeId) (sz : Nat) : Prop where
  ty : ∃ e i, P.underlying T = some (.slice e) ∧ P.info? e = some i ∧ i.size = sz ∧ sz ≠ 0 ∧ i.bytes ≤ 32768 ∧ zeroOk P e sz = true

theorem clone_build {T : TypeId} {sz : Nat} (h : CloneTy P T sz) : buildSliceA P T 0 [] = some (.row true []) := by
  obtain ⟨e, i, h1, h2, h3, h4, h5, h6⟩ := h.ty
  have hz : ∃ z, zeroA P e = some z ∧ z.cells.length = sz := by
    unfold zeroOk at h6
    cases hz : zeroA P e with
    | none => rw [hz] at h6; cases h6
    | some z => rw [hz] at h6; exact ⟨z, rfl, by simpa using h6⟩
  obtain ⟨z, hz1, hz2⟩ := hz
  simp [buildSliceA, elemTy, h1, tySize, h2, h3, hz1, hz2, h4, fillA, reps, chunk]

theorem clone_append {T : TypeId} {sz : Nat} (h : CloneTy P T sz) {g : Look} {nid : Nat} {x : AV} {cs : List AV} {k : Nat} (hx : srcCells g sz x = some (cs, k)) (hk : k ≤ lim) :
    appendA P g nid T T (.row true []) x = some (if k = 0 then (.row true [], []) else (.mrow nid 0 k, [(nid, .cells sz 0 0 cs)])) := by
  obtain ⟨e, i, h1, h2, h3, h4, h5, h6⟩ := h.ty
  subst h3
  simp only [appendA, elemTy, h1, h2, h4, h5, hx, ne_eq, not_false_iff, and_self, if_true]
  by_cases h0 : k = 0
  · simp [h0]
  · simp [h0, hk, h6]

theorem src_slice {g : Look} {sz : Nat} {x : AV} (hs : isStr x = false) {cs : List AV} {k : Nat} (hx : srcCells g sz x = some (cs, k)) {c : Value} (hv : VRel m F x c) :
    ∃ p l cp, c = .slice p l cp ∧ (p = none → k = 0) := by
  cases hv with
  | row ex l a cap b o size vs hex hcap ha hss hF hv =>
    refine ⟨a, _, cap, rfl, fun hp => ?_⟩
    simp only [srcCells] at hx
    split at hx
    · cases hx
      cases l with
      | nil => rfl
      | cons y ys => rw [ha (by simp)] at hp; cases hp
    · cases hx
  | mrow id ver len loc b cap hm hle hc hcur => exact ⟨_, _, _, rfl, fun h => by cases h⟩
  | str s => cases hs
  | _ => simp [srcCells] at hx

theorem results_two {fn : Func} (h : fn.results = #[.tmp 2]) (t : Array Value) (w : World) : (results fn t).run P w = .ok (t.getD 2 Go.undef) w := by
  simp [results, h]

theorem clone_ok {f : FuncId} {fn : Func} {T : TypeId} {sz : Nat} (hf : P.funcs[f]? = some fn) (hname : (fn.name == "runtime.NumGoroutine") = false) (hc : CloneIs fn T) (hT : CloneTy P T sz) : IntrOk P f (iClone sz) := by
  intro m F g w nid args x v u hi hm hx h
  obtain ⟨i0, i1, i2, i3, o0, p0, p1, q0, r0, r1, r2, r3, hb, ho0, hp0, hp1, hq0, hr0, hr1, hr2, hr3⟩ := hc.body
  simp only [opKey, Prod.mk.injEq] at ho0 hp0 hp1 hq0 hr0 hr1 hr2 hr3
  -- the argument
  match args, hx, h with
  | [X], hx, h =>
  simp only [iClone] at h
  split at h
  · cases h
  · rename_i hstr
    simp only [Bool.not_eq_true] at hstr
    split at h
    · rename_i cs k hsrc
      have hk : k ≤ lim := by
        by_cases h0 : k = 0
        · omega
        · rw [if_neg h0] at h
          split at h
          · assumption
          · cases h
      have hvu : (v, u) = if k = 0 then (.row true [], []) else (.mrow nid 0 k, [(nid, .cells sz 0 0 cs)]) := by
        by_cases h0 : k = 0
        · rw [if_pos h0] at h ⊢; cases h; rfl
        · rw [if_neg h0, if_pos hk] at h; rw [if_neg h0]; cases h; rfl
      have hsz : x.size = 1 := by have := hx.1; simpa using this.symm
      have hent : (callFunc f x).run P w = .ok (.enter f x) w := by
        have h2 : fn.name ≠ "runtime.NumGoroutine" := by simpa using hname
        have h3 : ¬ fn.body = none := by rw [hb]; simp
        simp [callFunc, hf, h2, h3]
      refine .inl ⟨hent, calls_of_wp hf hb ?_⟩
      have hv0 := VFr.enter (P := P) hi hx (fn.ntmps - x.size)
      rw [hsz, hc.nt] at hv0
      rw [hsz, hc.nt]
      obtain ⟨e, ii, hu, -⟩ := hT.ty
      have hnil : ∀ S, opV S nilC = some (.row true []) := fun S => rfl
      -- the end
      have fin : ∀ {m' : MMap} {F' : FMap} {S' : Nat → AV} {G' : Look} {a' : Act} {w' : World}, VFr P m' F' S' G' [] 8 a' w' → Ext m F w m' F' w' → S' 2 = v → G' = updU g u →
          bodyPost P fn (fun e w' => ∃ cv, e = .returned cv ∧ ∃ m' F', VRel m' F' v cv ∧ Inv m' F' (updU g u) w' ∧ Ext m F w m' F' w') .ret a' w' := by
        intro m' F' S' G' a' w' hv he h1 h2
        have hd : a'.defers = [] := hv.de.nil_left
        subst h1 h2
        exact ⟨hd, _, results_two hc.res _ _, _, rfl, m', F', hv.sl 2, hv.inv, he⟩
      -- result = nil
      refine wp_seq (wp_regionL (opV_step hv0 (hv0.inv.free hm) (v := .row true []) (u := []) (by simp [opA, ho0.2.1, hnil]) (fun t ht => by rw [ho0.1] at ht; cases ht; decide) ho0.2.2 fun m1 F1 a1 w1 hv1 he1 => ?_))
      change Code.wp P _ _ a1 w1
      rw [ho0.1] at hv1
      -- s == nil
      refine wp_seq (wp_seq (wp_regionL (opV_step hv1 (hv1.inv.free hm) (v := X) (u := []) (by simp [opA, hp0.2.1, opV, putV, sget]) (fun t ht => by rw [hp0.1] at ht; cases ht; decide) hp0.2.2 fun m2 F2 a2 w2 hv2 he2 => ?_)))
      rw [hp0.1] at hv2
      have h3X : VRel m2 F2 X (a2.eval (.tmp 3)) := by
        have := hv2.sl 3
        simp only [putV, if_true] at this
        exact this
      obtain ⟨p, l, cp, hcv, hpn⟩ := src_slice hstr hsrc h3X
      refine wpList_do hp1.2.2 ?_
      unfold Oper.wp
      have hrun : (execOp a2.eval p1).run P w2 = .ok (.value (.bool p.isNone)) w2 := by
        have e1 : a2.eval (.tmp 3) = .slice p l cp := hcv
        have e2 : a2.eval nilC = .slice none 0 0 := rfl
        unfold execOp
        rw [hp1.2.1]
        simp only [e1, e2]
        have := slice_nil_run hu p l cp (.tmp 3) nilC w2
        simp only [Sem.run_bind] at this ⊢
        rw [this]
        rfl
      rw [hrun, Oper.upon_value]
      have hv3 := hv2.put (dst := p1.dst) (.bool p.isNone) (fun t ht => by rw [hp1.1] at ht; cases ht; decide)
      rw [hp1.1] at hv3 ⊢
      have he3 : Ext m F w m2 F2 w2 := he1.trans he2
      generalize a2.put (some 4) (.bool p.isNone) = a3 at hv3
      change Code.wp P (.cond (.tmp 4) _ _) _ a3 w2
      have hc4 : a3.eval (.tmp 4) = .bool p.isNone := by
        have := hv3.sl 4
        simp only [putV, if_true] at this
        generalize hz : a3.tmps.getD 4 Go.undef = z at this
        cases this
        exact hz
      refine wp_cond hc4 ?_
      cases p with
      | none =>
        have hk0 := hpn rfl
        rw [if_pos hk0] at hvu
        cases hvu
        refine wp_seq (wp_regionL (opV_step hv3 (hv3.inv.free hm) (v := .row true []) (u := []) (by simp [opA, hq0.2.1, hnil]) (fun t ht => by rw [hq0.1] at ht; cases ht; decide) hq0.2.2 fun m4 F4 a4 w4 hv4 he4 => ?_))
        rw [hq0.1] at hv4
        exact wp_ret (fin hv4 (he3.trans he4) (by simp [putV]) rfl)
      | some pa =>
        refine wp_skip ?_
        change Code.wp P _ _ a3 w2
        have hv3' : VFr P m2 F2 (putV (putV (putV (sget [X]) (some 2) (.row true [])) (some 3) X) (some 4) (.bool false)) g [] 8 a3 w2 := hv3
        refine wp_seq (wp_regionL (opV_step hv3' (hv3'.inv.free hm) (v := .row true []) (u := []) (by simp [opA, hr0.2.1, evalParts, mapO, clone_build hT]) (fun t ht => by rw [hr0.1] at ht; cases ht; decide) hr0.2.2 fun m4 F4 a4 w4 hv4 he4 => ?_))
        rw [hr0.1] at hv4
        refine opV_step hv4 (hv4.inv.free hm) (v := X) (u := []) (by simp [opA, hr1.2.1, opV, putV, sget]) (fun t ht => by rw [hr1.1] at ht; cases ht; decide) hr1.2.2 fun m5 F5 a5 w5 hv5 he5 => ?_
        rw [hr1.1] at hv5
        refine opV_step hv5 (hv5.inv.free hm) (v := v) (u := u) ?_ (fun t ht => by rw [hr2.1] at ht; cases ht; decide) hr2.2.2 fun m6 F6 a6 w6 hv6 he6 => ?_
        · have := clone_append hT (g := g) (nid := nid) hsrc hk
          rw [← hvu] at this
          simp only [opA, hr2.2.1, opV, putV]
          exact this
        rw [hr2.1] at hv6
        refine opV_assign hv6 hr3.2.1 (v := v) (by simp [opV, putV]) (fun t ht => by rw [hr3.1] at ht; cases ht; decide) hr3.2.2 fun a7 hv7 => ?_
        rw [hr3.1] at hv7
        exact wp_ret (fin hv7 (((he3.trans he4).trans he5).trans he6) (by simp [putV]) rfl)
    · cases h
end
end Go.Am
