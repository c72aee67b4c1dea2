/- A step at another place. -/
import Derived.Test.YtplfpmfnlbfhkaaGreatDoorAm21
set_option linter.unusedVariables false
set_option linter.unusedSimpArgs false
namespace Go.Am
open Go

section
variable {E : Env} {rec : Code → Fr → Option (Ex × Fr)} {m m' : MMap} {F F' : FMap} {w w' : World} {S : Nat → AV} {G : Look} {a : Act}

/-- What a step leaves as it was. -/
structure Text (o : Oper) (f f' : Fr) (t : Note) : Prop where
  n : f'.n = f.n
  d : f'.d = f.d
  s : ∀ j, o.dst ≠ some j → sget f'.s j = sget f.s j
  h : ∀ id, id ∉ t.wr → look f'.h id = look f.h id
  wf : t.all = false → ∀ id ∈ t.wr, id ∈ t.foot

theorem text_put {o : Oper} {f f0 f' : Fr} {v : AV} {t t' : Note} (hp : putN f0 o.dst v t = some (f', t')) (hn : f0.n = f.n) (hd : f0.d = f.d) (hs : f0.s = f.s)
    (hh : ∀ id, id ∉ t.wr → look f0.h id = look f.h id) (hw : t.all = false → ∀ id ∈ t.wr, id ∈ t.foot) : Text o f f' t' := by
  obtain ⟨h1, h2, h3, h4, h5, h6⟩ := putN_spec hp
  subst h1
  refine ⟨h2.trans hn, h4.trans hd, fun j hj => ?_, fun id hid => ?_, hw⟩
  · rw [h6 j, putV, if_neg hj, hs]
  · rw [show look f'.h = look f0.h by rw [h3]]; exact hh id hid

theorem text_op {o : Oper} {f f' : Fr} {v : AV} {u : Ups} {foot : List Nat} {t' : Note} (hw : wrOk f.h.length foot u = true)
    (hp : putN { f with h := applyU f.h u } o.dst v ⟨foot, u.map (·.1), false⟩ = some (f', t')) : Text o f f' t' := by
  have hws := wrOk_spec hw
  refine text_put hp rfl rfl rfl (fun id hid => ?_) (fun _ id hid => ?_)
  · simp only
    rw [look_apply u f.h fun p hp => (hws p hp).1]
    exact (updU_at u _ (look f.h) id).2 hid
  · obtain ⟨p, hp1, rfl⟩ := List.mem_map.1 hid
    exact (hws p hp1).2

theorem stepN_text {ops : Array Oper} {o : Oper} {nid : Nat} {f f' : Fr} {t : Note} (h : stepN E rec ops o nid f = some (f', t)) : Text o f f' t := by
  unfold stepN at h
  split at h
  · split at h
    · cases h
    · split at h
      · split at h
        · split at h
          · split at h
            · split at h
              · split at h
                · rename_i hw
                  simp only [Bool.and_eq_true] at hw
                  exact text_op hw.2 h
                · cases h
              · cases h
            · cases h
          · split at h
            · split at h
              · exact text_put h rfl rfl rfl (fun _ _ => rfl) (fun _ id hid => by simp at hid)
              · refine text_put h rfl rfl rfl (fun id hid => ?_) (fun h0 => by cases h0)
                exact diffH_spec 0 _ _ id (by simpa using hid)
            · cases h
        · cases h
      · split at h
        · split at h
          · rename_i hw
            simp only [Bool.and_eq_true] at hw
            exact text_op hw.2 h
          · cases h
        · cases h
    · split at h
      · split at h
        · rename_i hw
          simp only [Bool.and_eq_true] at hw
          exact text_op hw.2 h
        · cases h
      · cases h
  · exact text_put h rfl rfl rfl (fun _ _ => rfl) (fun _ id hid => by simp at hid)

/-- The slots behind a step. -/
def nextS (S : Nat → AV) (o : Oper) (f' : Fr) : Nat → AV := fun j => if o.dst = some j then sget f'.s j else S j
/-- The objects behind a step. -/
def nextG (G : Look) (t : Note) (f' : Fr) : Look := fun id => if id ∈ t.wr then look f'.h id else G id

theorem nextS_put {o : Oper} {f0 f' : Fr} {v : AV} {t t' : Note} (hp : putN f0 o.dst v t = some (f', t')) : putV S o.dst v = nextS S o f' := by
  obtain ⟨-, -, -, -, -, h6⟩ := putN_spec hp
  funext j
  simp only [putV, nextS]
  split
  · rename_i hj; rw [h6 j, putV, if_pos hj]
  · rfl

theorem nextG_op {o : Oper} {f f' : Fr} {v : AV} {u : Ups} {foot : List Nat} {t' : Note} (hw : wrOk f.h.length foot u = true)
    (hp : putN { f with h := applyU f.h u } o.dst v ⟨foot, u.map (·.1), false⟩ = some (f', t')) : updU G u = nextG G t' f' := by
  obtain ⟨h1, -, h3, -, -, -⟩ := putN_spec hp
  subst h1
  have hws := wrOk_spec hw
  funext id
  simp only [nextG]
  split
  · rename_i hid
    rw [h3]
    simp only
    rw [look_apply u f.h fun p hp => (hws p hp).1]
    exact (updU_at u (look f.h) G id).1 hid
  · rename_i hid
    exact (updU_at u G G id).2 hid

/-- What goes on behind a step. -/
def GoesV (P : Program) (m : MMap) (F : FMap) (w : World) (S : Nat → AV) (G : Look) (d : List (FuncId × List AV)) (n : Nat) (K : Act → World → Prop) : Prop :=
  ∀ m' F' a' w', VFr P m' F' S G d n a' w' → Ext m F w m' F' w' → K a' w'

theorem nid_free {o : Oper} {nid : Nat} {f : Fr} {foot : List Nat} (hn : nidOk E o nid f.h = true) (hmem : allocs E o = true → nid ∈ foot)
    (hft : ∀ id ∈ foot, G id = look f.h id) (hfree : ∃ k, Void G k) : ∃ nid', Void G nid' ∧ (allocs E o = true → nid' = nid) := by
  cases ha : allocs E o with
  | false =>
    obtain ⟨k, hk⟩ := hfree
    exact ⟨k, hk, fun h => by cases h⟩
  | true =>
    refine ⟨nid, .inr ?_, fun _ => rfl⟩
    rw [hft nid (hmem ha)]
    unfold nidOk at hn
    rw [ha] at hn
    simp only [Bool.not_true, Bool.false_or] at hn
    split at hn
    · assumption
    · cases hn

theorem stepV_opA {o : Oper} {ops : Array Oper} {nid : Nat} {f f' : Fr} {t : Note} (hv : VFr E.P m F S G f.d f.n a w)
    (hsl : ∀ d ∈ o.looksAt ops, S d = sget f.s d) (hft : ∀ id ∈ t.foot, G id = look f.h id) (hfree : ∃ k, Void G k) {v : AV} {u : Ups}
    (ho : opA E.P o nid (opnd f.s) (look f.h) = some (v, u)) (hn : nidOk E o nid f.h = true) (hw : wrOk f.h.length (footA E o nid (opnd f.s)) u = true)
    (hp : putN { f with h := applyU f.h u } o.dst v ⟨footA E o nid (opnd f.s), u.map (·.1), false⟩ = some (f', t)) {K : Act → World → Prop} {Q : Exit → Act → World → Prop}
    (hK : GoesV E.P m F w (nextS S o f') (nextG G t f') f.d f.n K) : o.wp E.P a w K Q := by
  obtain ⟨h1, -, -, -, h5, -⟩ := putN_spec hp
  have hft' : ∀ id ∈ footA E o nid (opnd f.s), G id = look f.h id := by rw [h1] at hft; exact hft
  obtain ⟨nid', hm, hnid⟩ := nid_free hn (foot := footA E o nid (opnd f.s)) (fun ha => by simp [footA, ha]) hft' hfree
  have hop : opA E.P o nid' (opV S) G = some (v, u) := by
    rw [← ho]
    refine opA_frame (E := E) (fun x hx => ?_) (fun hl id hid => hft' id ?_) hnid
    · rw [opnd_V]; exact looksAt_opnd hsl x hx
    · unfold footA; rw [if_pos hl]; exact List.mem_append.2 (.inr hid)
  obtain ⟨cv, w', m', F', hd, hvr, hi, he⟩ := opA_ok (ρc := a.eval) hv.inv (hv.inv.free hm) (fun x v hx => hv.opv hx) hop
  have h2 := (hv.move hi he).put hvr h5
  rw [nextS_put hp, nextG_op hw hp] at h2
  unfold Oper.wp
  rcases hd with hd | ⟨hd, rfl⟩
  · rw [hd, Oper.upon_value]; exact hK _ _ _ _ h2 he
  · rw [hd, Oper.upon_skip]; exact hK _ _ _ _ h2 he

theorem call_upon {o : Oper} {c : Call} (hop : o.op = .call c) {d0 : List (FuncId × List AV)} {n0 : Nat} (hv : VFr E.P m F S G d0 n0 a w) {k : FuncId} {args : List AV} (hcal : calleeA E.P (opV S) c = some (k, args)) {R : Value → World → Prop}
    (hA : ∀ x : Array Value, RelL m F args x.toList → Answers E.P k x w R) {K : Act → World → Prop} {Q : Exit → Act → World → Prop} (hK : ∀ cv w', R cv w' → K (a.put o.dst cv) w') : o.wp E.P a w K Q := by
  obtain ⟨d, x, h1, -, h3, h4⟩ := callee_ok (ρc := a.eval) (fun x v hx => hv.opv hx) hcal o.type
  have hrun : (execOp a.eval o).run E.P w = (callFunc k x).run E.P w := by
    unfold execOp
    rw [hop]
    simp only [Sem.run_bind, h1, Result.andThen_ok, h3]
  unfold Oper.wp
  rw [hrun]
  rcases hA x h4 with ⟨h5, h6⟩ | ⟨cv, w', h5, h6⟩
  · rw [h5, Oper.upon_enter]
    refine h6.mono fun e w' he => ?_
    obtain ⟨cv, rfl, hl⟩ := he
    exact hK cv w' hl
  · rw [h5, Oper.upon_value]; exact hK cv w' h6

mutual
theorem shift_nf (k : Nat) : ∀ q : AV, (shiftV k q).nf = true → q.nf = true
  | .mrow _ _ _, h => by simp [shiftV, AV.nf] at h
  | .ptr _ _ _, h => by simp [shiftV, AV.nf] at h
  | .map _, h => by simp [shiftV, AV.nf] at h
  | .row ex l, h => by
    simp only [shiftV, AV.nf, Bool.and_eq_true] at h ⊢
    exact ⟨h.1, shiftL_nf k l h.2⟩
  | .fptr l, h => by simp only [shiftV, AV.nf] at h ⊢; exact shiftL_nf k l h
  | .func f a b, h => by
    simp only [shiftV, AV.nf, Bool.and_eq_true] at h ⊢
    exact ⟨shiftL_nf k a h.1, shiftL_nf k b h.2⟩
  | .iface t v, h => by simp only [shiftV, AV.nf] at h ⊢; exact shift_nf k v h
  | .agg l, h => by simp only [shiftV, AV.nf] at h ⊢; exact shiftL_nf k l h
  | .tup l, h => by simp only [shiftV, AV.nf] at h ⊢; exact shiftL_nf k l h
  | .bool _, h => rfl
  | .int _ _, h => rfl
  | .str _, h => rfl
  | .nilptr, h => rfl
  | .nilmap, h => rfl
  | .nilfunc, h => rfl
  | .niliface, h => rfl
theorem shiftL_nf (k : Nat) : ∀ l : List AV, nfL (shiftL k l) = true → nfL l = true
  | [], h => rfl
  | v :: vs, h => by
    simp only [shiftL, nfL, Bool.and_eq_true] at h ⊢
    exact ⟨shift_nf k v h.1, shiftL_nf k vs h.2⟩
end

/-- A call with values of which nothing is an object's, whose answer is of the same make: beside any heap. -/
theorem nfcall_ok (hE : EnvOk E) (hrec : RecOk E rec) {nid : Nat} {k : FuncId} (hI : E.I k = none) {args : List AV} {h h' : Heap} {v : AV} (hc : callG E rec nid k args h = some (v, h'))
    (hn : nfL args = true) (hvn : v.nf = true) (hi : Inv m F G w) {x : Array Value} (hx : RelL m F args x.toList) :
    Answers E.P k x w fun cv w' => ∃ F', VRel m F' v cv ∧ Inv m F' G w' ∧ Ext m F w m F' w' := by
  unfold callG at hc
  rw [hI] at hc
  simp only [hn, if_true] at hc
  obtain ⟨r, h1, h2⟩ := map_some' hc
  have hr : r.1 = v ∧ r.1.nf = true := by
    unfold joinA at h2
    split at h2
    · rename_i hnf; cases h2; exact ⟨rfl, hnf⟩
    · rename_i hnf
      simp only [Prod.mk.injEq] at h2
      obtain ⟨h3, -⟩ := h2
      exfalso
      apply hnf
      rw [← h3] at hvn
      generalize r.1 = q at hvn
      have key : ∀ (k : Nat), (∀ q : AV, (shiftV k q).nf = true → q.nf = true) := fun k q => shift_nf k q
      exact key _ q hvn
  unfold pureA at h1
  obtain ⟨v1, h1'⟩ := r
  refine (callFz_ok hE hrec h1 hi.none (nfL_rel (m1 := noM) hn hx)).mono fun cv w' hl => ?_
  obtain ⟨m1, F1, k1, k2, k3⟩ := hl
  obtain ⟨rfl, h4⟩ := hr
  exact ⟨F1, join_nf hi k2 k3 k1 h4⟩
theorem callG_nid {nid nid' : Nat} {k : FuncId} (hI : E.I k = none) {args : List AV} {h : Heap} : callG E rec nid k args h = callG E rec nid' k args h := by
  unfold callG
  rw [hI]

theorem stepN_ok (hE : EnvOk E) (hrec : RecOk E rec) {ops : Array Oper} {o : Oper} {nid : Nat} {f f' : Fr} {t : Note} (h : stepN E rec ops o nid f = some (f', t))
    (hv : VFr E.P m F S G f.d f.n a w) (hsl : ∀ d ∈ o.looksAt ops, S d = sget f.s d) (hall : t.all = true → G = look f.h) (hft : ∀ id ∈ t.foot, G id = look f.h id)
    (hfree : ∃ k, Void G k) {K : Act → World → Prop} {Q : Exit → Act → World → Prop} (hK : GoesV E.P m F w (nextS S o f') (nextG G t f') f.d f.n K) :
    if Region.wanted o (yielded ops a.tmps) then o.wp E.P a w K Q else K (a.put o.dst undef) w := by
  rw [hv.wanted ops o, looksAt_wanted hsl, ← wanted_V]
  unfold stepN at h
  split at h
  · rename_i hwant
    rw [if_pos hwant]
    have hρ : ∀ x ∈ o.op.operands.toList, opV S x = opnd f.s x := fun x hx => by rw [opnd_V]; exact looksAt_opnd hsl x hx
    split at h
    · cases h
    · rename_i c hop
      split at h
      · split at h
        · rename_i k args hcal
          have hcal' : calleeA E.P (opV S) c = some (k, args) := by
            rw [← hcal]
            exact callee_frame fun x hx => hρ x (by rw [hop]; exact hx)
          split at h
          · rename_i i hI
            split at h
            · rename_i hal
              split at h
              · rename_i v u hu
                split at h
                · rename_i hnw
                  simp only [Bool.and_eq_true] at hnw
                  obtain ⟨h1, -, -, -, h5, -⟩ := putN_spec h
                  have hft' : ∀ id ∈ nid :: args.flatMap idOf, G id = look f.h id := by rw [h1] at hft; exact hft
                  obtain ⟨nid', hm, hnid⟩ := nid_free hnw.1 (foot := nid :: args.flatMap idOf) (fun _ => List.mem_cons_self) hft' hfree
                  have e := hnid hal
                  subst e
                  have hu' : i nid' args G = some (v, u) := by
                    rw [← hu]
                    exact hE.ifr k i hI nid' args _ _ fun id hid => hft' id (List.mem_cons_of_mem _ hid)
                  refine call_upon hop hv hcal' (fun x hx => hE.intr k i hI m F G w nid' args x v u hv.inv hm hx hu') fun cv w' hl => ?_
                  obtain ⟨m', F', k1, k2, k3⟩ := hl
                  have h2 := (hv.move k2 k3).put k1 h5
                  rw [nextS_put h, nextG_op hnw.2 h] at h2
                  exact hK _ _ _ _ h2 k3
                · cases h
              · cases h
            · cases h
          · rename_i hI
            split at h
            · rename_i v h' hc
              split at h
              · rename_i hnf
                simp only [Bool.and_eq_true] at hnf
                obtain ⟨h1, -, h3, -, h5, -⟩ := putN_spec h
                refine call_upon hop hv hcal' (fun x hx => nfcall_ok hE hrec hI hc hnf.1 hnf.2 hv.inv hx) fun cv w' hl => ?_
                obtain ⟨F', k1, k2, k3⟩ := hl
                have h2 := (hv.move k2 k3).put k1 h5
                rw [nextS_put h] at h2
                have e : nextG G t f' = G := by rw [h1]; funext id; simp [nextG]
                rw [e] at hK
                exact hK _ _ _ _ h2 k3
              · obtain ⟨h1, -, h3, -, h5, -⟩ := putN_spec h
                have hG : G = look f.h := hall (by rw [h1])
                obtain ⟨nid', hm⟩ := hfree
                have hv' := hv.inv
                rw [hG] at hv' hm
                rw [callG_nid (nid' := nid') hI] at hc
                refine call_upon hop hv hcal' (fun x hx => callG_ok hE hrec hc hv' hm hx) fun cv w' hl => ?_
                obtain ⟨m', F', k1, k2, k3⟩ := hl
                have h2 := (hv.move k2 k3).put k1 h5
                rw [nextS_put h] at h2
                have e : nextG G t f' = look h' := by
                  rw [h1]; funext id
                  simp only [nextG, h3]
                  split
                  · rfl
                  · rename_i hid
                    rw [hG]
                    exact (diffH_spec 0 _ _ id (by simpa using hid)).symm
                rw [e] at hK
                exact hK _ _ _ _ h2 k3
            · cases h
        · cases h
      · split at h
        · rename_i v u hu
          split at h
          · rename_i hnw
            simp only [Bool.and_eq_true] at hnw
            exact stepV_opA hv hsl hft hfree hu hnw.1 hnw.2 h hK
          · cases h
        · cases h
    · split at h
      · rename_i v u hu
        split at h
        · rename_i hnw
          simp only [Bool.and_eq_true] at hnw
          exact stepV_opA hv hsl hft hfree hu hnw.1 hnw.2 h hK
        · cases h
      · cases h
  · rename_i hwant
    rw [if_neg hwant]
    obtain ⟨h1, -, h3, -, h5, -⟩ := putN_spec h
    have h2 := hv.put (dst := o.dst) vrel_und h5
    rw [nextS_put h] at h2
    have e : nextG G t f' = G := by rw [h1]; funext id; simp [nextG]
    rw [e] at hK
    exact hK _ _ _ _ h2 Ext.refl
end
end Go.Am
