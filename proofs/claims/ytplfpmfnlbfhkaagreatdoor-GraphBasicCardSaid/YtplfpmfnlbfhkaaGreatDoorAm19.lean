/- Calls within frames, operations in their order. -/
import Derived.Test.YtplfpmfnlbfhkaaGreatDoorAm18
set_option linter.unusedVariables false
set_option linter.unusedSimpArgs false
namespace Go.Am
open Go

section
variable {E : Env} {rec : Code → Fr → Option (Ex × Fr)} {m m' : MMap} {F F' : FMap} {w w' : World}

/-- What is marked is an object of cells. -/
theorem frm0_look {g : Look} {recm : AV → List (Nat × Nat)} (hrec : ∀ c, ∀ p ∈ recm c, ∃ sz ver fz cs, g p.1 = some (.cells sz ver fz cs)) :
    ∀ v, ∀ p ∈ frm0 g recm v, ∃ sz ver fz cs, g p.1 = some (.cells sz ver fz cs)
  | .mrow id ver len, p, hp => by
    simp only [frm0] at hp
    split at hp
    · rename_i sz ver' fz c hg
      rcases List.mem_cons.1 hp with rfl | hp
      · exact ⟨sz, ver', fz, c, hg⟩
      · obtain ⟨c0, -, h2⟩ := List.mem_flatMap.1 hp
        exact hrec c0 p h2
    · simp at hp
  | .row ex l, p, hp => frmL_look hrec l p (by simpa only [frm0] using hp)
  | .agg l, p, hp => frmL_look hrec l p (by simpa only [frm0] using hp)
  | .tup l, p, hp => frmL_look hrec l p (by simpa only [frm0] using hp)
  | .iface t v, p, hp => frm0_look hrec v p (by simpa only [frm0] using hp)
  | .bool _, p, hp => by simp [frm0] at hp
  | .int _ _, p, hp => by simp [frm0] at hp
  | .str _, p, hp => by simp [frm0] at hp
  | .ptr _ _ _, p, hp => by simp [frm0] at hp
  | .fptr _, p, hp => by simp [frm0] at hp
  | .nilptr, p, hp => by simp [frm0] at hp
  | .map _, p, hp => by simp [frm0] at hp
  | .nilmap, p, hp => by simp [frm0] at hp
  | .func _ _ _, p, hp => by simp [frm0] at hp
  | .nilfunc, p, hp => by simp [frm0] at hp
  | .niliface, p, hp => by simp [frm0] at hp
where frmL_look {g : Look} {recm : AV → List (Nat × Nat)} (hrec : ∀ c, ∀ p ∈ recm c, ∃ sz ver fz cs, g p.1 = some (.cells sz ver fz cs)) :
    ∀ l, ∀ p ∈ frmL g recm l, ∃ sz ver fz cs, g p.1 = some (.cells sz ver fz cs)
  | [], p, hp => by simp [frmL] at hp
  | v :: vs, p, hp => by
    simp only [frmL, List.mem_append] at hp
    rcases hp with hp | hp
    · exact frm0_look hrec v p hp
    · exact frmL_look hrec vs p hp

theorem frm_look {g : Look} : ∀ (n : Nat) (v : AV), ∀ p ∈ frm g n v, ∃ sz ver fz cs, g p.1 = some (.cells sz ver fz cs)
  | 0, v, p, hp => by simp [frm] at hp
  | n + 1, v, p, hp => frm0_look (frm_look n) v p hp

theorem left_frz {f : FuncId} {v v' : AV} {h h' : Heap} {cv : Value} (hl : Left m F w v h cv w') (hf : frzR E f (v, h) = some (v', h')) : Left m F w v' h' cv w' := by
  unfold frzR at hf
  split at hf
  · split at hf
    · rename_i v2 hv2
      cases hf
      obtain ⟨m1, F1, h1, h2, h3⟩ := hl
      obtain ⟨F2, k1, k2, k3⟩ := freeze_ok h2 (marks := frm (look h) frzDepth v)
      refine ⟨m1, F2, frv_rel h2 k2.grow frzDepth v cv v' h1 hv2 fun p hp => ?_, k1, h3.trans k2⟩
      obtain ⟨sz, ver, fz, cs, hg⟩ := frm_look _ _ p hp
      exact k3 p hp sz ver fz cs hg
    · cases hf
  · cases hf; exact hl

theorem bind_some' {α β : Type} {x : Option α} {f : α → Option β} {y : β} (h : x.bind f = some y) : ∃ a, x = some a ∧ f a = some y := by
  cases x with
  | none => cases h
  | some a => exact ⟨a, rfl, h⟩

theorem callFz_ok (hE : EnvOk E) (hrec : RecOk E rec) {f : FuncId} {args : List AV} {h h' : Heap} {v : AV} (hc : (callF E rec f args h).bind (frzR E f) = some (v, h')) {x : Array Value}
    (hi : Inv m F (look h) w) (hx : RelL m F args x.toList) : Answers E.P f x w (Left m F w v h') := by
  obtain ⟨⟨v0, h0⟩, h1, h2⟩ := bind_some' hc
  exact (callF_ok hE hrec h1 hi hx).mono fun cv w' hl => left_frz hl h2

theorem pure_ok (hE : EnvOk E) (hrec : RecOk E rec) {f : FuncId} {args : List AV} {r : AV × Heap} {h : Heap} (hn : nfL args = true) (hc : pureA E rec f args = some r) {x : Array Value}
    (hi : Inv m F (look h) w) (hx : RelL m F args x.toList) : Answers E.P f x w (Left m F w (joinA r h).1 (joinA r h).2) := by
  unfold pureA at hc
  obtain ⟨v, h1⟩ := r
  refine (callFz_ok hE hrec hc hi.none (nfL_rel (m1 := noM) hn hx)).mono fun cv w' hl => ?_
  obtain ⟨m1, F1, k1, k2, k3⟩ := hl
  obtain ⟨m', l1, l2, l3⟩ := join_ok (r := (v, h1)) hi k2 k3 k1
  exact ⟨m', F1, l1, l2, l3⟩

theorem callG_ok (hE : EnvOk E) (hrec : RecOk E rec) {nid : Nat} {f : FuncId} {args : List AV} {h h' : Heap} {v : AV} (hc : callG E rec nid f args h = some (v, h')) {x : Array Value}
    (hi : Inv m F (look h) w) (hn : Void (look h) nid) (hx : RelL m F args x.toList) : Answers E.P f x w (Left m F w v h') := by
  unfold callG at hc
  split at hc
  · rename_i i hI
    split at hc
    · rename_i v0 u hu
      cases hc
      refine (hE.intr f i hI m F _ w nid args x _ u hi hn hx hu).mono fun cv w' hl => ?_
      obtain ⟨m', F', h1, h2, h3⟩ := hl
      exact ⟨m', F', h1, h2.congr (applyU_geq u h), h3⟩
    · cases hc
  · split at hc
    · rename_i hnf
      obtain ⟨r, h1, h2⟩ := map_some' hc
      have := pure_ok hE hrec hnf h1 hi hx
      rw [h2] at this
      exact this
    · split at hc
      · split at hc
        · rename_i args' hargs
          obtain ⟨F1, k1, k2, k3⟩ := freeze_ok hi (marks := frmL (look h) (frm (look h) frzDepth) args)
          have hx' : RelL m F1 args' x.toList := by
            obtain ⟨h1, h2⟩ := frvL_get hargs
            refine ⟨h1.trans hx.1, fun i u y hu hy => ?_⟩
            have hlt : i < args.length := by rw [← h1]; exact (List.getElem?_eq_some_iff.1 hu).1
            obtain ⟨u', h3, h4⟩ := h2 i _ (List.getElem?_eq_getElem hlt)
            rw [hu] at h3; cases h3
            refine frv0_rel hi k2.grow (frv_rel hi k2.grow frzDepth) (hx.2 i _ y (List.getElem?_eq_getElem hlt) hy) u h4 fun p hp => ?_
            obtain ⟨sz, ver, fz, cs, hg⟩ := frm0_look (frm_look frzDepth) _ p hp
            exact k3 p (frmL_mem (List.getElem_mem hlt) p hp) sz ver fz cs hg
          have up : ∀ {v2 h2 cv w2}, Left m F1 w v2 h2 cv w2 → Left m F w v2 h2 cv w2 := fun hl => by
            obtain ⟨m2, F2, a1, a2, a3⟩ := hl
            exact ⟨m2, F2, a1, a2, k2.trans a3⟩
          split at hc
          · rename_i hnf
            obtain ⟨r, h1, h2⟩ := map_some' hc
            have := pure_ok hE hrec hnf h1 k1 hx'
            rw [h2] at this
            exact this.mono fun cv w2 hl => up hl
          · exact (callFz_ok hE hrec hc k1 hx').mono fun cv w2 hl => up hl
        · cases hc
      · exact callFz_ok hE hrec hc hi hx

/-- Whom a call calls, and with what. -/
theorem callee_ok {P : Program} {ρ : Operand → Option AV} {ρc : Operand → Value} (hρ : ∀ x v, ρ x = some v → VRel m F v (ρc x)) {c : Call} {k : FuncId} {args : List AV} (h : calleeA P ρ c = some (k, args)) (t : TypeId) :
    ∃ d x, (∀ w, (resolve ρc c t).run P w = .ok d w) ∧ (∃ fv cap, d.target = .fn fv cap) ∧ (∀ w, (invoke d.target d.args).run P w = (callFunc k x).run P w) ∧ RelL m F args x.toList := by
  unfold calleeA at h
  split at h
  · rename_i f hcal
    split at h
    · rename_i f0 first captured as hf hargs
      cases h
      have hr := mapO_rel hρ hargs
      have hf' := hρ _ _ hf
      generalize hval : ρc f = fv at hf'
      cases hf' with
      | func _ _ _ X Y ha hb h1 h2 =>
        refine ⟨{ target := .fn (.func k) ⟨Y⟩, args := ⟨X⟩ ++ c.args.map ρc }, (⟨X⟩ ++ c.args.map ρc) ++ ⟨Y⟩, fun w => ?_, ⟨_, _, rfl⟩, fun w => rfl, ?_⟩
        · simp only [resolve, hcal, hval]
          exact Sem.run_pure ..
        · have := (RelL.append (RelL.append (⟨ha, h1⟩ : RelL m F first X) hr) (⟨hb, h2⟩ : RelL m F captured Y))
          simpa using this
    · cases h
  · rename_i recv name hcal
    split at h
    · rename_i t0 v as hf hargs
      obtain ⟨f0, hm, he⟩ := map_some' h
      cases he
      have hr := mapO_rel hρ hargs
      have hf' := hρ _ _ hf
      generalize hval : ρc recv = fv at hf'
      cases hf' with
      | iface _ _ X hX =>
        refine ⟨{ target := .fn (.method name) #[], args := #[.iface t0 X] ++ c.args.map ρc }, #[X] ++ c.args.map ρc, fun w => ?_, ⟨_, _, rfl⟩, fun w => ?_, ?_⟩
        · simp only [resolve, hcal, hval]
          exact Sem.run_pure ..
        · unfold methodA at hm
          split at hm
          · rename_i i hi
            split at hm
            · rename_i mt hmt
              split at hm
              · rename_i hemp
                split at hm
                · rename_i f1 pr hfn
                  have hpath : mt.path.toList = [] := by simpa [Array.isEmpty_iff] using hemp
                  have hmeth : (method (P.types.size + Made.depth) t0 X name).run P w = .ok (k, X) w := by
                    obtain ⟨n, hn⟩ : ∃ n, P.types.size + Made.depth = n + 1 := ⟨P.types.size + Made.depth - 1, by simp [Made.depth]⟩
                    rw [hn]
                    cases hu : P.underlying t0 with
                    | none => rw [hu] at hm; split at hm <;> simp_all
                    | some ud =>
                      rw [hu] at hm
                      cases ud <;> cases pr <;> simp at hm <;> subst hm <;>
                        simp [method, typeInfo, hi, hmt, hpath, follow, hfn, receiverAt, run_underlying hu, Place.get]
                  have e0 : (#[Value.iface t0 X] ++ c.args.map ρc)[0]? = some (.iface t0 X) := by rw [Array.getElem?_append_left (by simp)]; rfl
                  have e1 : (#[Value.iface t0 X] ++ c.args.map ρc).extract 1 (#[Value.iface t0 X] ++ c.args.map ρc).size = c.args.map ρc := by simp
                  simp only [invoke, e0, e1, callMethod, Sem.run_bind, hmeth, Result.andThen_ok, run_program]
                · cases hm
              · cases hm
            · cases hm
          · cases hm
        · have := RelL.cons hX hr
          simpa using this
    · cases h
  · cases h

theorem srel_put {f : Fr} {a : Act} (hs : SRel m F f.s a.tmps) {d : Nat} {v : AV} {cv : Value} (hv : VRel m F v cv) (hd : d < a.tmps.size) : SRel m F (sset f.s d v) (a.tmps.setIfInBounds d cv) := by
  intro j
  rw [sget_sset, Array.getD_eq_getD_getElem?, Array.getElem?_setIfInBounds]
  by_cases hj : j = d
  · subst hj; simp [hd]; exact hv
  · rw [if_neg hj, if_neg (fun e => hj e.symm), ← Array.getD_eq_getD_getElem?]
    exact hs j

theorem frok_put {P : Program} {f f' : Fr} {a : Act} (hf : FrOk P m F f a w) {dst : Option Nat} {v : AV} {cv : Value} (hv : VRel m F v cv) (h : putS f dst v = some f') : FrOk P m F f' (a.put dst cv) w := by
  cases dst with
  | none => cases h; exact hf
  | some d =>
    simp only [putS] at h
    split at h
    · rename_i hd
      cases h
      have hsz := hf.nn
      exact ⟨hf.inv, srel_put hf.sl hv (by omega), by simpa [Act.put] using hf.nn, hf.de⟩
    · cases h

theorem FrOk.move {P : Program} {f : Fr} {a : Act} (hf : FrOk P m F f a w) {h : Heap} (hi : Inv m' F' (look h) w') (he : Ext m F w m' F' w') : FrOk P m' F' { f with h := h } a w' :=
  ⟨hi, hf.sl.mono he.grow, hf.nn, hf.de.mono he.grow⟩

/-- Whether a guard lets an operation be. -/
theorem wanted_ok {P : Program} {f : Fr} {a : Act} (hf : FrOk P m F f a w) (ops : Array Oper) (o : Oper) : Region.wanted o (yielded ops a.tmps) = wantedA ops f.s o := by
  unfold Region.wanted wantedA
  cases hg : o.guard with
  | none => rfl
  | some p =>
    obtain ⟨j, want⟩ := p
    simp only
    unfold yielded
    cases hd : (ops[j]?).bind (·.dst) with
    | none => rfl
    | some d =>
      simp only [Option.bind_some]
      have hs := hf.sl d
      cases ht : a.tmps[d]? with
      | none =>
        have : a.tmps.getD d Go.undef = Go.undef := by rw [Array.getD_eq_getD_getElem?, ht]; rfl
        rw [this] at hs
        generalize hb : sget f.s d = b at hs
        cases b <;> first | rfl | (cases hs; done)
      | some y =>
        have : a.tmps.getD d Go.undef = y := by rw [Array.getD_eq_getD_getElem?, ht]; rfl
        rw [this] at hs
        generalize hb : sget f.s d = b at hs
        cases hs <;> first | rfl | (rename_i b; cases b <;> cases want <;> rfl)

/-- What goes on behind an operation. -/
def Goes (P : Program) (m : MMap) (F : FMap) (w : World) (f' : Fr) (K : Act → World → Prop) : Prop :=
  ∀ m' F' a' w', FrOk P m' F' f' a' w' → Ext m F w m' F' w' → K a' w'

theorem opA_step {P : Program} {o : Oper} {nid : Nat} {f f' : Fr} {a : Act} (hf : FrOk P m F f a w) (hn : m nid = none) {v : AV} {u : Ups}
    (ho : opA P o nid (opnd f.s) (look f.h) = some (v, u)) (hp : putS { f with h := applyU f.h u } o.dst v = some f') {K : Act → World → Prop} {Q : Exit → Act → World → Prop}
    (hK : Goes P m F w f' K) : o.wp P a w K Q := by
  obtain ⟨cv, w', m', F', hd, hv, hi, he⟩ := opA_ok (ρc := a.eval) hf.inv hn (fun x v hx => opnd_rel hf.sl hx) ho
  have h2 := frok_put (hf.move (hi.congr (applyU_geq u f.h)) he) hv hp
  unfold Oper.wp
  rcases hd with hd | ⟨hd, rfl⟩
  · rw [hd, Oper.upon_value]; exact hK _ _ _ _ h2 he
  · rw [hd, Oper.upon_skip]; exact hK _ _ _ _ h2 he

theorem call_step (hE : EnvOk E) (hrec : RecOk E rec) {o : Oper} {c : Call} (hop : o.op = .call c) {nid : Nat} {f f' : Fr} {a : Act} (hf : FrOk E.P m F f a w) (hn : Void (look f.h) nid) {k : FuncId} {args : List AV}
    (hcal : calleeA E.P (opnd f.s) c = some (k, args)) {v : AV} {h : Heap} (hg : callG E rec nid k args f.h = some (v, h)) (hp : putS { f with h := h } o.dst v = some f')
    {K : Act → World → Prop} {Q : Exit → Act → World → Prop} (hK : Goes E.P m F w f' K) : o.wp E.P a w K Q := by
  obtain ⟨d, x, h1, -, h3, h4⟩ := callee_ok (ρc := a.eval) (fun x v hx => opnd_rel hf.sl hx) hcal o.type
  have hrun : (execOp a.eval o).run E.P w = (callFunc k x).run E.P w := by
    unfold execOp
    rw [hop]
    simp only [Sem.run_bind, h1, Result.andThen_ok, h3]
  have next : ∀ cv w', Left m F w v h cv w' → K (a.put o.dst cv) w' := fun cv w' hl => by
    obtain ⟨m', F', k1, k2, k3⟩ := hl
    exact hK _ _ _ _ (frok_put (hf.move k2 k3) k1 hp) k3
  unfold Oper.wp
  rw [hrun]
  rcases callG_ok hE hrec hg hf.inv hn h4 with ⟨h5, h6⟩ | ⟨cv, w', h5, h6⟩
  · rw [h5, Oper.upon_enter]
    refine h6.mono fun e w' he => ?_
    obtain ⟨cv, rfl, hl⟩ := he
    exact next cv w' hl
  · rw [h5, Oper.upon_value]; exact next cv w' h6

theorem stepO_ok (hE : EnvOk E) (hrec : RecOk E rec) {ops : Array Oper} {o : Oper} {nid : Nat} {f f' : Fr} {a : Act} (hf : FrOk E.P m F f a w) (hn : Void (look f.h) nid)
    (h : stepO E rec ops o nid f = some f') {K : Act → World → Prop} {Q : Exit → Act → World → Prop} (hK : Goes E.P m F w f' K) :
    if Region.wanted o (yielded ops a.tmps) then o.wp E.P a w K Q else K (a.put o.dst undef) w := by
  rw [wanted_ok hf ops o]
  unfold stepO at h
  split at h
  · rename_i hw
    rw [if_pos hw]
    split at h
    · rename_i c hop
      split at h
      · split at h
        · rename_i k args hcal
          split at h
          · rename_i v h2 hg
            exact call_step hE hrec hop hf hn hcal hg h hK
          · cases h
        · cases h
      · split at h
        · rename_i v u hu
          exact opA_step hf (hf.inv.free hn) hu h hK
        · cases h
    · rename_i c hop
      split at h
      · rename_i p hcal
        obtain ⟨k, args⟩ := p
        obtain ⟨d, x, h1, h2, h3, h4⟩ := callee_ok (ρc := a.eval) (fun x v hx => opnd_rel hf.sl hx) hcal o.type
        have hrun : (execOp a.eval o).run E.P w = .ok (.defer d) w := by
          unfold execOp
          rw [hop]
          simp only [Sem.run_bind, h1, Result.andThen_ok, Sem.run_pure]
        unfold Oper.wp
        rw [hrun, Oper.upon_defer]
        refine hK m F _ _ (frok_put (f := { f with d := (k, args) :: f.d }) (a := { a with defers := d :: a.defers }) ⟨hf.inv, hf.sl, hf.nn, .cons ⟨h2, x, h3, h4⟩ hf.de⟩ vrel_und h) Ext.refl
      · cases h
    · split at h
      · rename_i v u hu
        exact opA_step hf (hf.inv.free hn) hu h hK
      · cases h
  · rename_i hw
    rw [if_neg hw]
    exact hK m F _ _ (frok_put hf vrel_und h) Ext.refl

theorem free_at (h : Heap) : Void (look h) h.length := .inl (List.getElem?_eq_none (Nat.le_refl _))

/-- The operations of a region whose order is fixed. -/
theorem stepsO_ok (hE : EnvOk E) (hrec : RecOk E rec) (ops : Array Oper) {Q : Exit → Act → World → Prop} : ∀ (l : List Oper) {f f' : Fr} {m : MMap} {F : FMap} {a : Act} {w : World}, FrOk E.P m F f a w →
    stepsO E rec ops l f = some f' → Goes E.P m F w f' (Q .normal) → wpList E.P ops Q l a w
  | [], f, f', m, F, a, w, hf, h, hQ => by cases h; exact hQ _ _ _ _ hf Ext.refl
  | o :: l, f, f', m, F, a, w, hf, h, hQ => by
    simp only [stepsO] at h
    split at h
    · rename_i f1 h1
      have := stepO_ok (K := wpList E.P ops Q l) (Q := Q) hE hrec hf (free_at f.h) h1 fun m' F' a' w' hf' he' =>
        stepsO_ok hE hrec ops l hf' h fun m2 F2 a2 w2 hf2 he2 => hQ _ _ _ _ hf2 (he'.trans he2)
      simp only [wpList]
      split
      · rename_i hw; rw [if_pos hw] at this; exact .inl this
      · rename_i hw; rw [if_neg hw] at this; exact this
    · cases h

theorem region_ok (hE : EnvOk E) (hrec : RecOk E rec) {id : Nat} {ops : Array Oper} {f f' : Fr} (h : stepsO E rec ops ops.toList f = some f') : CodeOk E.P (.region id ops false) f .normal f' := by
  intro m F a w hf
  refine wp_region ?_
  have := wpOps_eq_wpList (P := E.P) (ops := ops) (Q := fun ex a' w' => ex = Ex.normal.to ∧ ∃ m' F', FrOk E.P m' F' f' a' w' ∧ Ext m F w m' F' w') ops.toList 0 (fun j => by simp)
  rw [List.range_eq_range']
  simp only [Array.length_toList] at this
  rw [this]
  exact stepsO_ok hE hrec ops _ hf h fun m' F' a' w' h1 h2 => ⟨rfl, m', F', h1, h2⟩
end
end Go.Am
