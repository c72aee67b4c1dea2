/- Calls. -/
import Derived.Test.YtplfpmfnlbfhkaaGreatDoorAm17
import Derived.Defers
set_option linter.unusedVariables false
set_option linter.unusedSimpArgs false
namespace Go.Am
open Go

/-- A function is called: it answers, by itself or behind a walk through its body. -/
def Answers (P : Program) (f : FuncId) (x : Array Value) (w : World) (R : Value → World → Prop) : Prop :=
  ((callFunc f x).run P w = .ok (.enter f x) w ∧ Calls P f x w fun e w' => ∃ cv, e = .returned cv ∧ R cv w') ∨
  ∃ cv w', (callFunc f x).run P w = .ok (.value cv) w' ∧ R cv w'

theorem Answers.mono {P : Program} {f : FuncId} {x : Array Value} {w : World} {R R' : Value → World → Prop} (h : Answers P f x w R) (hr : ∀ cv w', R cv w' → R' cv w') : Answers P f x w R' := by
  rcases h with ⟨h1, h2⟩ | ⟨cv, w', h1, h2⟩
  · exact .inl ⟨h1, h2.mono fun e w' ⟨cv, he, hR⟩ => ⟨cv, he, hr _ _ hR⟩⟩
  · exact .inr ⟨cv, w', h1, hr _ _ h2⟩

def IntrOk (P : Program) (f : FuncId) (i : Nat → List AV → Look → Option (AV × Ups)) : Prop :=
  ∀ (m : MMap) (F : FMap) (g : Look) (w : World) (nid : Nat) (args : List AV) (x : Array Value) (v : AV) (u : Ups),
    Inv m F g w → Void g nid → RelL m F args x.toList → i nid args g = some (v, u) →
    Answers P f x w fun cv w' => ∃ m' F', VRel m' F' v cv ∧ Inv m' F' (updU g u) w' ∧ Ext m F w m' F' w'

structure EnvOk (E : Env) : Prop where
  name : ∀ (f : FuncId) (fn : Func), E.P.funcs[f]? = some fn → fn.body.isSome = true → (fn.name == "runtime.NumGoroutine") = false
  mixed : E.P.follows .mixedOrders = true
  intr : ∀ f i, E.I f = some i → IntrOk E.P f i
  ifr : ∀ f i, E.I f = some i → ∀ (nid : Nat) (args : List AV) (g g' : Look), (∀ id ∈ args.flatMap idOf, g' id = g id) → i nid args g' = i nid args g
  dn : ∀ f, E.dn f = true → ∀ (x : Array Value) (w : World), (callFunc f x).run E.P w = .ok (.enter f x) w ∧
    CallsD E.P f x .returning w fun e u' w' => u' = .returning ∧ (∃ v, e = .returned v) ∧ w' = w

/-- A deferred call. -/
def DOne (P : Program) (m : MMap) (F : FMap) (p : FuncId × List AV) (d : Deferred) : Prop :=
  (∃ fv cap, d.target = .fn fv cap) ∧ ∃ x : Array Value, (∀ w, (invoke d.target d.args).run P w = (callFunc p.1 x).run P w) ∧ RelL m F p.2 x.toList

inductive DRel (P : Program) (m : MMap) (F : FMap) : List (FuncId × List AV) → List Deferred → Prop where
  | nil : DRel P m F [] []
  | cons {p d ps ds} (h : DOne P m F p d) (hs : DRel P m F ps ds) : DRel P m F (p :: ps) (d :: ds)

theorem DRel.mono {P : Program} {m m' : MMap} {F F' : FMap} (hg : Grow m m' F F') : ∀ {ps ds}, DRel P m F ps ds → DRel P m' F' ps ds := by
  intro ps ds h
  induction h with
  | nil => exact .nil
  | cons h hs ih =>
    obtain ⟨h1, x, h2, h3⟩ := h
    exact .cons ⟨h1, x, h2, h3.mono hg⟩ ih

theorem DRel.nil_left {P : Program} {m : MMap} {F : FMap} {ds : List Deferred} (h : DRel P m F [] ds) : ds = [] := by
  generalize hp : ([] : List (FuncId × List AV)) = ps at h
  cases h with
  | nil => rfl
  | cons => cases hp

/-- A frame stands for what a goroutine does. -/
structure FrOk (P : Program) (m : MMap) (F : FMap) (f : Fr) (a : Act) (w : World) : Prop where
  inv : Inv m F (look f.h) w
  sl : SRel m F f.s a.tmps
  nn : a.tmps.size = f.n
  de : DRel P m F f.d a.defers

def Ex.to : Ex → Exit
  | .normal => .normal
  | .exit id => .exit id
  | .ret => .ret

def CodeOk (P : Program) (c : Code) (f : Fr) (e : Ex) (f' : Fr) : Prop :=
  ∀ m F a w, FrOk P m F f a w → c.wp P (fun ex a' w' => ex = e.to ∧ ∃ m' F', FrOk P m' F' f' a' w' ∧ Ext m F w m' F' w') a w

def RecOk (E : Env) (rec : Code → Fr → Option (Ex × Fr)) : Prop := ∀ c f e f', rec c f = some (e, f') → CodeOk E.P c f e f'

section
variable {E : Env} {rec : Code → Fr → Option (Ex × Fr)} {m m' : MMap} {F F' : FMap} {w : World}

theorem callFunc_enter (hE : EnvOk E) {f : FuncId} {fn : Func} (hf : E.P.funcs[f]? = some fn) (hb : fn.body.isSome = true) (x : Array Value) (w : World) :
    (callFunc f x).run E.P w = .ok (.enter f x) w := by
  have h1 := hE.name f fn hf hb
  have h2 : fn.name ≠ "runtime.NumGoroutine" := by simpa using h1
  have h3 : ¬ fn.body = none := by intro e; rw [e] at hb; cases hb
  simp [callFunc, hf, h2, h3]

theorem SRel.mono {s : List AV} {t : Array Value} (hg : Grow m m' F F') (h : SRel m F s t) : SRel m' F' s t := fun j => (h j).mono hg

theorem sget_eq : ∀ (s : List AV) (j : Nat), sget s j = (s[j]?).getD und
  | [], j => by simp [sget]
  | x :: s, 0 => rfl
  | x :: s, j + 1 => by simpa [sget] using sget_eq s j

theorem sget_sset : ∀ (s : List AV) (i j : Nat) (v : AV), sget (sset s i v) j = if j = i then v else sget s j
  | [], 0, 0, v => rfl
  | [], 0, j + 1, v => by simp [sset, sget]
  | [], i + 1, 0, v => by simp [sset, sget]
  | [], i + 1, j + 1, v => by
    simp only [sset, sget, Nat.add_right_cancel_iff]
    rw [sget_sset [] i j v]
    simp [sget]
  | x :: s, 0, 0, v => rfl
  | x :: s, 0, j + 1, v => by simp [sset, sget]
  | x :: s, i + 1, 0, v => by simp [sset, sget]
  | x :: s, i + 1, j + 1, v => by simpa [sset, sget] using sget_sset s i j v

/-- The arguments of a call, in the callee's slots. -/
theorem SRel.enter {args : List AV} {x : Array Value} (h : RelL m F args x.toList) (n : Nat) : SRel m F args (x ++ Array.replicate n Go.undef) := by
  intro j
  rw [sget_eq]
  cases hj : args[j]? with
  | some u =>
    obtain ⟨v, hv, hr⟩ := h.get hj
    rw [Array.getElem?_toList] at hv
    have hlt : j < x.size := (Array.getElem?_eq_some_iff.1 hv).1
    have : (x ++ Array.replicate n Go.undef).getD j Go.undef = v := by
      rw [Array.getD_eq_getD_getElem?, Array.getElem?_append_left hlt, hv]; rfl
    rw [this]; exact hr
  | none =>
    have hge : x.size ≤ j := by
      have := List.getElem?_eq_none_iff.1 hj
      have h2 := h.1
      simp at h2; omega
    have : (x ++ Array.replicate n Go.undef).getD j Go.undef = Go.undef := by
      rw [Array.getD_eq_getD_getElem?, Array.getElem?_append_right hge, Array.getElem?_replicate]
      split <;> rfl
    rw [this]; exact vrel_und

def resC (tmps : Array Value) (r : ResultVar) : Sem Value :=
  match r with
  | .tmp t => pure (tmps.getD t undef)
  | .cell a t => do loadVar t (← asAddr (tmps.getD a undef))
def resA (P : Program) (s : List AV) (g : Look) (r : ResultVar) : Option AV :=
  match r with
  | .tmp t => some (sget s t)
  | .cell a t => match addrCells g (sget s a) with
    | some cs => loadFrom P t cs
    | none => none

theorem res_one {P : Program} {tmps : Array Value} {s : List AV} {g : Look} (hi : Inv m F g w) (hs : SRel m F s tmps) {r : ResultVar} {v : AV} (h : resA P s g r = some v) :
    ∃ cv, (resC tmps r).run P w = .ok cv w ∧ VRel m F v cv := by
  cases r with
  | tmp t => cases h; exact ⟨_, Sem.run_pure .., hs t⟩
  | cell a t =>
    simp only [resA] at h
    split at h
    · rename_i cs hcs
      obtain ⟨b, o, us, hx, hr, hc⟩ := addrCells_rel hi (hs a) hcs
      obtain ⟨cv, h3, h4⟩ := loadFrom_rel h hr hc
      refine ⟨cv, ?_, h4⟩
      simp only [resC, hx, asAddr, Sem.run_bind, Sem.run_pure, Result.andThen_ok, h3]
    · cases h

theorem results_list {P : Program} {tmps : Array Value} {s : List AV} {g : Look} (hi : Inv m F g w) (hs : SRel m F s tmps) : ∀ (l : List ResultVar) (r : List AV),
    mapO (resA P s g) l = some r → ∃ vs, (l.mapM (resC tmps)).run P w = .ok vs w ∧ RelL m F r vs
  | [], r, h => by cases h; exact ⟨[], by rw [List.mapM_nil, Sem.run_pure], RelL.nil⟩
  | x :: l, r, h => by
    simp only [mapO] at h
    split at h
    · cases h
    · rename_i v hv
      split at h
      · cases h
      · rename_i ys hys
        cases h
        obtain ⟨vs, h1, h2⟩ := results_list hi hs l ys hys
        obtain ⟨cv, h3, h4⟩ := res_one hi hs hv
        refine ⟨cv :: vs, ?_, RelL.cons h4 h2⟩
        rw [List.mapM_cons]
        simp only [Sem.run_bind, h3, Result.andThen_ok, h1, Sem.run_pure]

theorem resultsA_eq (P : Program) (fn : Func) (s : List AV) (g : Look) : resultsA P fn s g = match mapO (resA P s g) fn.results.toList with
  | some [v] => some v
  | some vs => some (.tup vs)
  | none => none := rfl
theorem results_eq (fn : Func) (tmps : Array Value) : results fn tmps = (do
  let vs ← fn.results.mapM (resC tmps)
  pure (if h : vs.size = 1 then vs[0] else .tuple vs)) := rfl

theorem results_ok {P : Program} {fn : Func} {s : List AV} {g : Look} {tmps : Array Value} {v : AV} (hi : Inv m F g w) (hs : SRel m F s tmps) (h : resultsA P fn s g = some v) :
    ∃ cv, (results fn tmps).run P w = .ok cv w ∧ VRel m F v cv := by
  rw [resultsA_eq] at h
  rw [results_eq]
  split at h
  · rename_i v0 hm
    cases h
    obtain ⟨vs, h1, h2⟩ := results_list hi hs _ _ hm
    obtain ⟨y, ys, rfl, h3, h4⟩ := h2.cons_left
    have := h4.nil_left; subst this
    refine ⟨y, ?_, h3⟩
    simp [Array.mapM_eq_mapM_toList, h1]
  · rename_i vs0 hne hm
    cases h
    obtain ⟨vs, h1, h2⟩ := results_list hi hs _ _ hm
    refine ⟨.tuple ⟨vs⟩, ?_, .tup _ _ h2.1 h2.2⟩
    have hl : ¬ vs.length = 1 := by
      intro e
      rw [← h2.1] at e
      match vs0, e with
      | [v], _ => exact hne v rfl
    simp [Array.mapM_eq_mapM_toList, h1, hl]
  · cases h

/-- A body that was walked: what it leaves. -/
theorem body_ok (hE : EnvOk E) (hrec : RecOk E rec) {f : FuncId} {args : List AV} {h : Heap} {fn : Func} {fr : Fr} (hb : bodyA E rec f args h = some (fn, fr)) :
    E.P.funcs[f]? = some fn ∧ fn.body.isSome = true ∧ ∀ (m : MMap) (F : FMap) (w : World) (x : Array Value), Inv m F (look h) w → RelL m F args x.toList →
      ∃ c, fn.body = some c ∧ c.wp E.P (fun ex a' w' => (ex = .normal ∨ ex = .ret) ∧ ∃ m' F', FrOk E.P m' F' fr a' w' ∧ Ext m F w m' F' w')
        { tmps := x ++ Array.replicate (fn.ntmps - x.size) undef, defers := [] } w := by
  unfold bodyA at hb
  split at hb
  · rename_i fn' hf
    split at hb
    · rename_i c hc
      have key : ∀ e, rec c { n := max args.length fn'.ntmps, s := args, h := h, d := [] } = some (e, fr) → (e = .normal ∨ e = .ret) →
          E.P.funcs[f]? = some fn' ∧ fn'.body.isSome = true ∧ ∀ (m : MMap) (F : FMap) (w : World) (x : Array Value), Inv m F (look h) w → RelL m F args x.toList →
      ∃ c, fn'.body = some c ∧ c.wp E.P (fun ex a' w' => (ex = .normal ∨ ex = .ret) ∧ ∃ m' F', FrOk E.P m' F' fr a' w' ∧ Ext m F w m' F' w')
        { tmps := x ++ Array.replicate (fn'.ntmps - x.size) undef, defers := [] } w := by
        intro e he hee
        refine ⟨hf, by rw [hc]; rfl, fun m F w x hi hx => ⟨c, hc, ?_⟩⟩
        refine Code.wp_mono (fun ex a' w' hq => ?_) (hrec _ _ _ _ he m F _ w ⟨hi, SRel.enter hx _, ?_, .nil⟩)
        · obtain ⟨h1, h2⟩ := hq
          refine ⟨?_, h2⟩
          rcases hee with rfl | rfl
          · exact .inl h1
          · exact .inr h1
        · have := hx.1
          simp at this ⊢; omega
      split at hb
      · rename_i fr0 he; cases hb; exact key _ he (.inl rfl)
      · rename_i fr0 he; cases hb; exact key _ he (.inr rfl)
      · cases hb
    · cases hb
  · cases hb

theorem deferred_ok (hE : EnvOk E) (hrec : RecOk E rec) {f : FuncId} {args : List AV} {h h' : Heap} (hd : deferredA E rec f args h = some h') {x : Array Value}
    (hi : Inv m F (look h) w) (hx : RelL m F args x.toList) :
    (callFunc f x).run E.P w = .ok (.enter f x) w ∧
    CallsD E.P f x .returning w fun e u' w' => u' = .returning ∧ (∃ v, e = .returned v) ∧ ∃ m' F', Inv m' F' (look h') w' ∧ Ext m F w m' F' w' := by
  unfold deferredA at hd
  split at hd
  · rename_i hdn
    cases hd
    obtain ⟨h1, h2⟩ := hE.dn f hdn x w
    exact ⟨h1, h2.mono fun e u' w' ⟨h3, h4, h5⟩ => ⟨h3, h4, m, F, h5 ▸ hi, h5 ▸ Ext.refl⟩⟩
  · split at hd
    · rename_i fn fr hb
      split at hd
      · rename_i hemp
        obtain ⟨v, hv, rfl⟩ := map_some' hd
        obtain ⟨hf, hbs, hbody⟩ := body_ok hE hrec hb
        obtain ⟨c, hc, hwp⟩ := hbody m F w x hi hx
        refine ⟨callFunc_enter hE hf hbs x w, ?_⟩
        refine CallsD.mono (callsD_of_wp (R := fun e w' => (∃ v, e = .returned v) ∧ ∃ m' F', Inv m' F' (look fr.h) w' ∧ Ext m F w m' F' w') hf hc (Code.wp_mono (fun ex a' w' hq => ?_) hwp)) fun e u' w' hh => ⟨hh.1, hh.2.1, hh.2.2⟩
        obtain ⟨hex, m', F', hfr, hext⟩ := hq
        have hde : a'.defers = [] := by
          have hz := hfr.de
          rw [List.isEmpty_iff.1 hemp] at hz
          exact hz.nil_left
        obtain ⟨cv, hr, -⟩ := results_ok hfr.inv hfr.sl hv
        rcases hex with rfl | rfl
        · exact ⟨hde, cv, hr, ⟨cv, rfl⟩, m', F', hfr.inv, hext⟩
        · exact ⟨hde, cv, hr, ⟨cv, rfl⟩, m', F', hfr.inv, hext⟩
      · cases hd
    · cases hd

/-- What a call leaves. -/
def Left (m : MMap) (F : FMap) (w : World) (v : AV) (h : Heap) (cv : Value) (w' : World) : Prop :=
  ∃ m' F', VRel m' F' v cv ∧ Inv m' F' (look h) w' ∧ Ext m F w m' F' w'

theorem leaves_ok (hE : EnvOk E) (hrec : RecOk E rec) {fn : Func} {s : List AV} {tmps : Array Value} {m0 : MMap} {F0 : FMap} {w0 : World} {v : AV} {h' : Heap} :
    ∀ {ps : List (FuncId × List AV)} {ds : List Deferred} {h : Heap} {m : MMap} {F : FMap} {w : World}, DRel E.P m F ps ds → Inv m F (look h) w → SRel m F s tmps → Ext m0 F0 w0 m F w →
      defersA E rec ps h = some h' → resultsA E.P fn s (look h') = some v →
      Leaves E.P fn tmps (fun e w' => ∃ cv, e = .returned cv ∧ Left m0 F0 w0 v h' cv w') ds .returning w := by
  intro ps
  induction ps with
  | nil =>
    intro ds h m F w hd hi hs he h1 h2
    cases hd
    cases h1
    obtain ⟨cv, hr, hv⟩ := results_ok hi hs h2
    exact ⟨cv, hr, cv, rfl, m, F, hv, hi, he⟩
  | cons p ps ih =>
    intro ds h m F w hd hi hs he h1 h2
    cases hd with
    | cons hone hrest =>
      rename_i d ds
      obtain ⟨⟨fv, cap, ht⟩, x, hinv, hx⟩ := hone
      obtain ⟨f, args⟩ := p
      simp only [defersA] at h1
      split at h1
      · rename_i h3 hd3
        obtain ⟨hent, hcall⟩ := deferred_ok hE hrec hd3 hi hx
        refine ⟨by simp, fv, cap, f, x, ht, (hinv w).trans hent, hcall.mono fun e u' w' hh => ?_⟩
        obtain ⟨rfl, ⟨cv, rfl⟩, m', F', hi', he'⟩ := hh
        exact ih (hrest.mono he'.grow) hi' (hs.mono he'.grow) (he.trans he') h1 h2
      · cases h1

theorem callF_ok (hE : EnvOk E) (hrec : RecOk E rec) {f : FuncId} {args : List AV} {h h' : Heap} {v : AV} (hc : callF E rec f args h = some (v, h')) {x : Array Value}
    (hi : Inv m F (look h) w) (hx : RelL m F args x.toList) : Answers E.P f x w (Left m F w v h') := by
  unfold callF at hc
  split at hc
  · rename_i fn fr hb
    split at hc
    · rename_i h3 hd3
      obtain ⟨v0, hv, he⟩ := map_some' hc
      cases he
      obtain ⟨hf, hbs, hbody⟩ := body_ok hE hrec hb
      obtain ⟨c, hcode, hwp⟩ := hbody m F w x hi hx
      refine .inl ⟨callFunc_enter hE hf hbs x w, ?_⟩
      refine calls_of_wp_defers hf hcode (Code.wp_mono (fun ex a' w' hq => ?_) hwp)
      obtain ⟨hex, m', F', hfr, hext⟩ := hq
      have := leaves_ok hE hrec (fn := fn) hfr.de hfr.inv hfr.sl hext hd3 hv
      rcases hex with rfl | rfl
      · exact this
      · exact this
    · cases hc
  · cases hc
end
end Go.Am
