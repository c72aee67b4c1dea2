/- Operations: all of those that call no Go function. -/
import Derived.Test.YtplfpmfnlbfhkaaGreatDoorAm14
set_option linter.unusedVariables false
set_option linter.unusedSimpArgs false
namespace Go.Am
open Go

section
variable {P : Program} {m m' : MMap} {F F' : FMap} {g : Look} {w w' : World}

theorem OpOk.val {o : Oper} {ρ : Operand → Value} {v : AV} {u : Ups} {s : Sem Value} {cv : Value} {w' : World} {m' : MMap} {F' : FMap} (he : execOp ρ o = (do pure (Next.value (← s)) : Sem Next))
    (hs : s.run P w = .ok cv w') (hv : VRel m' F' v cv) (hi : Inv m' F' (updU g u) w') (hx : Ext m F w m' F' w') : OpOk P o ρ m F g w v u :=
  ⟨cv, w', m', F', .inl (by rw [he]; simp only [Sem.run_bind, hs, Result.andThen_ok, Sem.run_pure]), hv, hi, hx⟩

theorem OpOk.unit {o : Oper} {ρ : Operand → Value} {u : Ups} {s : Sem Unit} {w' : World} {m' : MMap} {F' : FMap} (he : execOp ρ o = (do s; pure Next.skip : Sem Next))
    (hs : s.run P w = .ok () w') (hi : Inv m' F' (updU g u) w') (hx : Ext m F w m' F' w') : OpOk P o ρ m F g w und u :=
  ⟨Go.undef, w', m', F', .inr ⟨by rw [he]; simp only [Sem.run_bind, hs, Result.andThen_ok, Sem.run_pure], rfl⟩, vrel_und, hi, hx⟩

theorem optO_rel {ρ : Operand → Option AV} {ρc : Operand → Value} (hρ : ∀ x v, ρ x = some v → VRel m F v (ρc x)) {x : Option Operand} {r : Option AV} (h : optO ρ x = some r) :
    (∀ v, r = some v → ∃ c, x.map ρc = some c ∧ VRel m F v c) ∧ (r = none → x.map ρc = none) := by
  cases x with
  | none => cases h; exact ⟨(fun v hv => by cases hv), fun _ => rfl⟩
  | some x =>
    obtain ⟨v, hv, rfl⟩ := map_some' h
    exact ⟨(fun v' hv' => by cases hv'; exact ⟨_, rfl, hρ _ _ hv⟩), (fun h => by cases h)⟩

theorem arr_map {α β : Type} (a : Array α) (f : α → β) : a.map f = (a.toList.map f).toArray := by
  rw [← Array.toList_inj, Array.toList_map]

theorem opA_ok {o : Oper} {nid : Nat} {ρ : Operand → Option AV} {ρc : Operand → Value} {v : AV} {u : Ups} (hi : Inv m F g w) (hn : m nid = none)
    (hρ : ∀ x v, ρ x = some v → VRel m F v (ρc x)) (h : opA P o nid ρ g = some (v, u)) : OpOk P o ρc m F g w v u := by
  unfold opA at h
  split at h
  case h_1 x hop =>
    obtain ⟨y, hy, he⟩ := map_some' h; cases he
    exact OpOk.quiet hi (by simp [execOp, hop]) (hρ _ _ hy)
  case h_2 x hop =>
    obtain ⟨y, hy, he⟩ := map_some' h; cases he
    exact OpOk.quiet hi (by simp [execOp, hop]) (hρ _ _ hy)
  case h_3 c a b hop =>
    split at h
    · rename_i t x y hc ha hb
      cases h
      have h1 := hρ _ _ hc
      generalize hcc : ρc c = cc at h1
      cases h1
      refine OpOk.quiet (cv := if t then ρc a else ρc b) hi (by simp [execOp, hop, hcc, asBool]) ?_
      cases t
      · exact hρ _ _ hb
      · exact hρ _ _ ha
    · cases h
  case h_4 t hop =>
    obtain ⟨z, hz, he⟩ := map_some' h; cases he
    obtain ⟨zv, hzr, hzrel, -⟩ := zeroA_run hz
    obtain ⟨w', m', h1, h2, h3, h4⟩ := newVar_ok (P := P) hi hn (hzrel m F) t
    exact OpOk.val (s := Instr.alloc t true (.tuple #[])) (by simp [execOp, hop]) (by simp only [Instr.alloc, Sem.run_bind, hzr, Result.andThen_ok, h1, Sem.run_pure]) h2 h3 h4
  case h_5 t x hop =>
    obtain ⟨y, hy, he⟩ := map_some' h; cases he
    obtain ⟨w', m', h1, h2, h3, h4⟩ := newVar_ok (P := P) hi hn (hρ _ _ hy) t
    exact OpOk.val (s := Instr.box t (ρc x)) (by simp [execOp, hop]) (by simp only [Instr.box, Sem.run_bind, h1, Result.andThen_ok, Sem.run_pure]) h2 h3 h4
  case h_6 t parts hop =>
    split at h
    · rename_i ps hps
      obtain ⟨r, hr, he⟩ := map_some' h; cases he
      obtain ⟨cv, h1, h2⟩ := build_ok (P := P) (w := w) (evalParts_rel hρ hps) hr
      exact OpOk.val (s := Instr.build t (parts.map fun (i, x) => (i, ρc x))) (by simp [execOp, hop]) (by rw [arr_map]; exact h1) h2 hi Ext.refl
    · cases h
  case h_7 t len parts hop =>
    split at h
    · rename_i ps hps
      obtain ⟨r, hr, he⟩ := map_some' h; cases he
      obtain ⟨cv, w', F', h1, h2, h3, h4⟩ := buildSlice_ok (P := P) hi (evalParts_rel hρ hps) hr
      exact OpOk.val (s := Instr.buildSlice t len (parts.map fun (i, x) => (i, ρc x))) (by simp [execOp, hop]) (by rw [arr_map]; exact h1) h2 h3 h4
    · cases h
  case h_8 t a hop =>
    split at h
    · rename_i v0 hv
      split at h
      · rename_i cs hcs
        obtain ⟨r, hr, he⟩ := map_some' h; cases he
        obtain ⟨b, off, vs, h1, h2, h3⟩ := addrCells_rel hi (hρ _ _ hv) hcs
        obtain ⟨cv, h4, h5⟩ := loadFrom_rel (P := P) hr h2 h3
        exact OpOk.val (s := Instr.loadAt t (ρc a)) (by simp [execOp, hop]) (by rw [h1]; simp only [Instr.loadAt, Instr.sureAddr, Sem.run_bind, Sem.run_pure, Result.andThen_ok, h4]) h5 hi Ext.refl
      · cases h
    · cases h
  case h_9 t a x hop =>
    split at h
    · rename_i va vx ha hx
      obtain ⟨u', hu, he⟩ := map_some' h; cases he
      obtain ⟨w', h1, h2, h3⟩ := store_ok (P := P) hi (hρ _ _ ha) (hρ _ _ hx) hu
      exact OpOk.unit (s := Instr.storeAt t (ρc a) (ρc x)) (by simp [execOp, hop]) h1 h2 h3
    · cases h
  case h_10 x hop =>
    split at h
    · rename_i id ver off hx
      cases h
      have h1 := hρ _ _ hx
      refine OpOk.quiet hi ?_ h1
      generalize hc : ρc x = c at h1
      cases h1
      simp [execOp, hop, hc]
    · rename_i cs hx
      cases h
      have h1 := hρ _ _ hx
      refine OpOk.quiet hi ?_ h1
      generalize hc : ρc x = c at h1
      cases h1
      simp [execOp, hop, hc]
    · rename_i f a b hx
      cases h
      have h1 := hρ _ _ hx
      refine OpOk.quiet hi ?_ h1
      generalize hc : ρc x = c at h1
      cases h1
      simp [execOp, hop, hc]
    · cases h
  case h_11 op t x y yt hop =>
    split at h
    · rename_i a b hx hy
      obtain ⟨r, hr, he⟩ := map_some' h; cases he
      obtain ⟨cv, h1, h2⟩ := bin_ok (P := P) (w := w) (xo := x) (yo := y) (hρ _ _ hx) (hρ _ _ hy) hr
      exact OpOk.val (s := (do eqGuard op t x y (ρc x) (ρc y); binOp op t (ρc x) (ρc y))) (by simp [execOp, hop]) h1 h2 hi Ext.refl
    · cases h
  case h_12 op t x hop =>
    split at h
    · rename_i a hx
      obtain ⟨r, hr, he⟩ := map_some' h; cases he
      obtain ⟨cv, h1, h2⟩ := un_ok (P := P) (w := w) (hρ _ _ hx) hr
      exact OpOk.val (s := Op.unary op (ρc x)) (by simp [execOp, hop]) h1 h2 hi Ext.refl
    · cases h
  case h_13 src dst x hop =>
    split at h
    · rename_i a hx
      obtain ⟨r, hr, he⟩ := map_some' h; cases he
      obtain ⟨cv, w', F', h1, h2, h3, h4⟩ := convert_ok (P := P) hi (hρ _ _ hx) hr
      exact OpOk.val (s := convert src dst (ρc x)) (by simp [execOp, hop]) h1 h2 h3 h4
    · cases h
  case h_14 t x hop =>
    split at h
    · cases h
    · rename_i d y hd hu hx
      cases h
      refine OpOk.quiet (cv := .iface t (ρc x)) hi ?_ (.iface _ _ _ (hρ _ _ hx))
      have : P.underlying t = some d := hu
      cases d <;> first
        | (exact (hd _ rfl).elim; done)
        | simp [execOp, hop, Instr.makeInterface, run_underlying hu]
    · cases h
  case h_15 f first captured hop =>
    split at h
    · rename_i a b ha hb
      cases h
      have h1 := mapO_rel hρ ha
      have h2 := mapO_rel hρ hb
      have e1 : (first.map ρc) = ⟨first.toList.map ρc⟩ := by rw [← Array.toList_map]
      have e2 : (captured.map ρc) = ⟨captured.toList.map ρc⟩ := by rw [← Array.toList_map]
      exact OpOk.quiet (cv := .func (.func f) (first.map ρc) (captured.map ρc)) hi (by simp [execOp, hop, Instr.makeFunc]) (by rw [e1, e2]; exact .func f a b _ _ h1.1 h2.1 h1.2 h2.2)
    · cases h
  case h_16 t hop =>
    cases h
    obtain ⟨cv, w', m', h1, h2, h3, h4⟩ := makeMap_ok (P := P) hi hn t
    exact OpOk.val (s := Instr.makeMap t none) (by simp [execOp, hop]) h1 h2 h3 h4
  case h_17 t l c hop =>
    split at h
    · rename_i vl vc hl hc
      obtain ⟨cv, w', m', h1, h2, h3, h4⟩ := makeSlice_ok (P := P) hi hn (hρ _ _ hl) (hρ _ _ hc) h
      exact OpOk.val (s := Instr.makeSlice t (ρc l) (ρc c)) (by simp [execOp, hop]) h1 h2 h3 h4
    · cases h
  case h_18 t x lo hi' mx hop =>
    split at h
    · rename_i vx vlo vhi vmx hx hlo hhi hmx
      obtain ⟨r, hr, he⟩ := map_some' h; cases he
      obtain ⟨a1, a2⟩ := optO_rel hρ hlo
      obtain ⟨b1, b2⟩ := optO_rel hρ hhi
      obtain ⟨c1, c2⟩ := optO_rel hρ hmx
      obtain ⟨cv, h1, h2⟩ := slice_ok (P := P) (w := w) (hρ _ _ hx) a1 a2 b1 b2 c1 c2 hr
      exact OpOk.val (s := Instr.sliceAt t (ρc x) (lo.map ρc) (hi'.map ρc) (mx.map ρc)) (by simp [execOp, hop]) h1 h2 hi Ext.refl
    · cases h
  case h_19 s x f hop =>
    split at h
    · rename_i a hx
      obtain ⟨r, hr, he⟩ := map_some' h; cases he
      obtain ⟨cv, h1, h2⟩ := fieldAddr_ok (P := P) (w := w) (hρ _ _ hx) hr
      exact OpOk.val (s := Instr.fieldAt s (ρc x) f) (by simp [execOp, hop]) h1 h2 hi Ext.refl
    · cases h
  case h_20 s x f hop =>
    split at h
    · rename_i a hx
      obtain ⟨r, hr, he⟩ := map_some' h; cases he
      obtain ⟨cv, h1, h2⟩ := field_ok (P := P) (w := w) (hρ _ _ hx) hr
      exact OpOk.val (s := Instr.field s (ρc x) f) (by simp [execOp, hop]) h1 h2 hi Ext.refl
    · cases h
  case h_21 t x i hop =>
    split at h
    · rename_i vx vi hx hi'
      obtain ⟨r, hr, he⟩ := map_some' h; cases he
      obtain ⟨cv, h1, h2⟩ := indexAddr_ok (P := P) (w := w) (hρ _ _ hx) (hρ _ _ hi') hr
      exact OpOk.val (s := Instr.indexAt t (ρc x) (ρc i)) (by simp [execOp, hop]) h1 h2 hi Ext.refl
    · cases h
  case h_22 t x i hop =>
    split at h
    · rename_i vx vi hx hi'
      obtain ⟨r, hr, he⟩ := map_some' h; cases he
      obtain ⟨cv, h1, h2⟩ := index_ok (P := P) (w := w) (hρ _ _ hx) (hρ _ _ hi') hr
      exact OpOk.val (s := Instr.index t (ρc x) (ρc i)) (by simp [execOp, hop]) h1 h2 hi Ext.refl
    · cases h
  case h_23 t mo k ok hop =>
    split at h
    · rename_i vm vk hm hk
      obtain ⟨r, hr, he⟩ := map_some' h; cases he
      obtain ⟨cv, h1, h2⟩ := lookup_ok (P := P) hi (hρ _ _ hm) (hρ _ _ hk) hr
      exact OpOk.val (s := Instr.lookup t (ρc mo) (ρc k) ok) (by simp [execOp, hop]) h1 h2 hi Ext.refl
    · cases h
  case h_24 t mo k v0 hop =>
    split at h
    · rename_i vm vk vv hm hk hv
      obtain ⟨u', hu, he⟩ := map_some' h; cases he
      obtain ⟨w', h1, h2, h3⟩ := update_ok (P := P) hi (hρ _ _ hm) (hρ _ _ hk) (hρ _ _ hv) hu
      exact OpOk.unit (s := Instr.mapUpdate t (ρc mo) (ρc k) (ρc v0)) (by simp [execOp, hop]) h1 h2 h3
    · cases h
  case h_25 t mo k v0 hop =>
    split at h
    · rename_i vm vk vv hm hk hv
      obtain ⟨u', hu, he⟩ := map_some' h; cases he
      obtain ⟨w', h1, h2, h3⟩ := update_ok (P := P) hi (hρ _ _ hm) (hρ _ _ hk) (hρ _ _ hv) hu
      exact OpOk.unit (s := Instr.mapUpdate t (ρc mo) (ρc k) (ρc v0)) (by simp [execOp, hop]) h1 h2 h3
    · cases h
  case h_26 x i hop =>
    split at h
    · rename_i vs hx
      obtain ⟨r, hr, he⟩ := map_some' h; cases he
      have h1 := hρ _ _ hx
      generalize hc : ρc x = c at h1
      cases h1 with
      | tup _ xs hl hrel =>
      obtain ⟨y, hy, hv⟩ := RelL.get ⟨hl, hrel⟩ hr
      exact OpOk.val (s := Instr.extract (ρc x) i) (by simp [execOp, hop]) (by rw [hc]; simp [Instr.extract, hy]) hv hi Ext.refl
    · cases h
  case h_27 b args argTypes hop =>
    have hex : ∀ s : Sem Value, (builtin b argTypes o.type (args.map fun | .const _ => true | _ => false) (args.map ρc)) = (do pure (.value (← s)) : Sem Next) → execOp ρc o = (do pure (Next.value (← s)) : Sem Next) := fun s hs => by
      simp only [execOp, hop, resolve, pure_bind, invoke]
      exact hs
    split at h
    · rename_i x t ha ht
      split at h
      · rename_i vx hx
        obtain ⟨r, hr, he⟩ := map_some' h; cases he
        obtain ⟨cv, h1, h2⟩ := len_ok (P := P) (ty := o.type) hi (hρ _ _ hx) hr
        have e1 : args.map ρc = #[ρc x] := by rw [← Array.toList_inj, Array.toList_map, ha]; rfl
        have e2 : argTypes = #[t] := by rw [← Array.toList_inj, ht]
        exact OpOk.val (hex (Builtin.len_ argTypes o.type (args.map ρc)) (by simp [builtin])) (by rw [e1, e2]; exact h1) h2 hi Ext.refl
      · cases h
    · rename_i s x t t2 ha ht
      split at h
      · rename_i vs vx hs hx
        obtain ⟨cv, w', m', h1, h2, h3, h4⟩ := append_ok (P := P) (ty := o.type) hi hn (hρ _ _ hs) (hρ _ _ hx) h
        have e1 : args.map ρc = #[ρc s, ρc x] := by rw [← Array.toList_inj, Array.toList_map, ha]; rfl
        have e2 : argTypes = #[t, t2] := by rw [← Array.toList_inj, ht]
        exact OpOk.val (hex (Builtin.append_ argTypes o.type (args.map ρc)) (by simp [builtin])) (by rw [e1, e2]; exact h1) h2 h3 h4
      · cases h
    · rename_i d x t rest ha ht
      split at h
      · rename_i vd vx hd hx
        have e1 : args.map ρc = #[ρc d, ρc x] := by rw [← Array.toList_inj, Array.toList_map, ha]; rfl
        have e2 : argTypes[0]? = some t := by rw [← Array.getElem?_toList, ht]; rfl
        obtain ⟨cv, w', h1, h2, h3, h4⟩ := copy_ok (P := P) (ty := o.type) hi e2 (hρ _ _ hd) (hρ _ _ hx) h
        exact OpOk.val (hex (Builtin.copy_ argTypes o.type (args.map ρc)) (by simp [builtin])) (by rw [e1]; exact h1) h2 h3 h4
      · cases h
    · rename_i ts x xs ha
      split at h
      · rename_i vx vs hx hxs
        obtain ⟨r, hr, he⟩ := map_some' h; cases he
        obtain ⟨cv, h1, h2⟩ := minA_ok (P := P) (w := w) (hρ _ _ hx) (mapO_rel hρ hxs) hr
        have e1 : (args.map ρc).toList = ρc x :: xs.map ρc := by rw [Array.toList_map, ha]; rfl
        exact OpOk.val (hex (Builtin.min_ argTypes o.type (args.map ρc)) (by simp [builtin])) (by simp only [Builtin.min_, e1]; exact h1) h2 hi Ext.refl
      · cases h
    · rename_i ts x xs ha
      split at h
      · rename_i vx vs hx hxs
        obtain ⟨r, hr, he⟩ := map_some' h; cases he
        obtain ⟨cv, h1, h2⟩ := maxA_ok (P := P) (w := w) (hρ _ _ hx) (mapO_rel hρ hxs) hr
        have e1 : (args.map ρc).toList = ρc x :: xs.map ρc := by rw [Array.toList_map, ha]; rfl
        exact OpOk.val (hex (Builtin.max_ argTypes o.type (args.map ρc)) (by simp [builtin])) (by simp only [Builtin.max_, e1]; exact h1) h2 hi Ext.refl
      · cases h
    · rename_i mo k t rest ha ht
      split at h
      · rename_i vm vk hm hk
        obtain ⟨u', hu, he⟩ := map_some' h; cases he
        have e1 : args.map ρc = #[ρc mo, ρc k] := by rw [← Array.toList_inj, Array.toList_map, ha]; rfl
        have e2 : argTypes[0]? = some t := by rw [← Array.getElem?_toList, ht]; rfl
        obtain ⟨w', h1, h2, h3⟩ := delete_ok (P := P) (ty := o.type) hi e2 (hρ _ _ hm) (hρ _ _ hk) hu
        exact OpOk.val (hex (Builtin.delete_ argTypes o.type (args.map ρc)) (by simp [builtin])) (by rw [e1]; exact h1) vrel_und h2 h3
      · cases h
    · cases h
  case h_28 => cases h
end
end Go.Am
