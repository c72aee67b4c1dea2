/- Operations, one by one: what the evaluator says is what the machine does. First part: values, memory, slices. -/
import Derived.Test.YtplfpmfnlbfhkaaGreatDoorAm4
import Derived.Laws.CopyRow
import Derived.ChangeKeysEq
set_option linter.unusedVariables false
set_option linter.unusedSimpArgs false
namespace Go.Am
open Go

section
variable {P : Program} {m m' : MMap} {F F' : FMap} {g : Look} {w w' : World}

theorem mapO_some {α β : Type} {f : α → Option β} : ∀ {l : List α} {r : List β}, mapO f l = some r → r.length = l.length ∧ ∀ (i : Nat) x y, l[i]? = some x → r[i]? = some y → f x = some y
  | [], r, h => by cases h; exact ⟨rfl, fun i x y hx => by simp at hx⟩
  | x :: xs, r, h => by
    simp only [mapO] at h
    cases hx : f x with
    | none => rw [hx] at h; cases h
    | some y =>
      rw [hx] at h
      cases hys : mapO f xs with
      | none => rw [hys] at h; cases h
      | some ys =>
        rw [hys] at h
        cases h
        obtain ⟨h1, h2⟩ := mapO_some hys
        refine ⟨by simp [h1], fun i a b ha hb => ?_⟩
        cases i with
        | zero => simp at ha hb; subst ha; subst hb; exact hx
        | succ i => simp at ha hb; exact h2 i a b ha hb

theorem vrel_und : VRel m F und Go.undef := .tup [] [] rfl fun i u v hu => by simp at hu

theorem vrel_ofValue : ∀ {n : Nat} {v : Value} {a : AV}, ofValue n v = some a → VRel m F a v
  | 0, v, a, h => by cases h
  | n + 1, v, a, h => by
    cases v with
    | bool b => cases h; exact .bool b
    | int k i => cases h; exact .int k i
    | string s => cases h; exact .str s.data.toList
    | pointer p => cases p with
      | none => cases h; exact .nilptr
      | some _ => cases h
    | slice p x y =>
      cases p with
      | some _ => cases h
      | none =>
        cases x with
        | succ _ => cases h
        | zero => cases y with
          | succ _ => cases h
          | zero =>
            cases h
            exact .row true [] none 0 0 0 0 (fun _ _ => Go.undef) (fun _ => rfl) (Nat.le_refl _) (fun h => absurd rfl h) (fun i e h => by simp at h) (fun i e j c h => by simp at h) (fun i e j c h => by simp at h)
    | map r => cases r with
      | none => cases h; exact .nilmap
      | some _ => cases h
    | nilFunc => cases h; exact .nilfunc
    | nilIface => cases h; exact .niliface
    | agg cs =>
      simp only [ofValue] at h
      cases hm : mapO (ofValue n) cs.toList with
      | none => rw [hm] at h; cases h
      | some l =>
        rw [hm] at h
        cases h
        obtain ⟨h1, h2⟩ := mapO_some hm
        exact .agg l cs.toList h1 fun i u v hu hv => vrel_ofValue (h2 i v u hv hu)
    | float k b => cases h
    | complex k a b => cases h
    | chan r => cases h
    | func f a b => cases h
    | iface t v => cases h
    | tuple vs => cases h

theorem VRel.cells {a : AV} {x : Value} (h : VRel m F a x) : RelL m F a.cells x.cells.toList := by
  cases h with
  | agg a x ha h1 => exact ⟨ha, h1⟩
  | _ => exact RelL.cons (by constructor <;> assumption) RelL.nil

theorem VRel.flat {a : AV} {x : Value} (h : VRel m F a x) (hf : a.flat = true) : x.oneCell' = true := by
  cases h <;> first | rfl | (cases hf; done)

theorem VRel.cells_length {a : AV} {x : Value} (h : VRel m F a x) : x.cells.size = a.cells.length := by
  have := h.cells.1; simpa using this.symm

def SRel (m : MMap) (F : FMap) (s : List AV) (tmps : Array Value) : Prop := ∀ j, VRel m F (sget s j) (tmps.getD j Go.undef)

theorem opnd_rel {s : List AV} {a : Act} (hs : SRel m F s a.tmps) {x : Operand} {v : AV} (h : opnd s x = some v) : VRel m F v (a.eval x) := by
  cases x with
  | tmp t => cases h; exact hs t
  | const c => exact vrel_ofValue h
  | global gl => cases h
  | func f => cases h; exact .func f [] [] [] [] rfl rfl (fun i u v hu => by simp at hu) (fun i u v hu => by simp at hu)

theorem mapO_rel {ρ : Operand → Option AV} {ρc : Operand → Value} (hρ : ∀ x v, ρ x = some v → VRel m F v (ρc x)) {l : List Operand} {r : List AV} (h : mapO ρ l = some r) : RelL m F r (l.map ρc) := by
  obtain ⟨h1, h2⟩ := mapO_some h
  refine RelL.of_get (by simp [h1]) fun i u hu => ?_
  have hlt : i < l.length := by rw [← h1]; exact (List.getElem?_eq_some_iff.1 hu).1
  exact ⟨ρc l[i], by simp [List.getElem?_eq_getElem hlt], hρ _ _ (h2 i _ u (List.getElem?_eq_getElem hlt) hu)⟩

/-! ### What an operation does -/
def Does (P : Program) (o : Oper) (ρ : Operand → Value) (w : World) (cv : Value) (w' : World) : Prop :=
  (execOp ρ o).run P w = .ok (.value cv) w' ∨ ((execOp ρ o).run P w = .ok .skip w' ∧ cv = Go.undef)
def updU (g : Look) (u : Ups) : Look := u.foldl (fun g p => upd g p.1 p.2) g
def OpOk (P : Program) (o : Oper) (ρ : Operand → Value) (m : MMap) (F : FMap) (g : Look) (w : World) (v : AV) (u : Ups) : Prop :=
  ∃ cv w' m' F', Does P o ρ w cv w' ∧ VRel m' F' v cv ∧ Inv m' F' (updU g u) w' ∧ Ext m F w m' F' w'

theorem OpOk.quiet {o : Oper} {ρ : Operand → Value} {v : AV} {cv : Value} (hi : Inv m F g w) (hd : (execOp ρ o).run P w = .ok (.value cv) w) (hv : VRel m F v cv) :
    OpOk P o ρ m F g w v [] := ⟨cv, w, m, F, .inl hd, hv, hi, Ext.refl⟩

theorem map_some' {α β : Type} {f : α → β} {x : Option α} {y : β} (h : x.map f = some y) : ∃ a, x = some a ∧ f a = y := by
  cases x with
  | none => cases h
  | some a => exact ⟨a, rfl, by simpa using h⟩

theorem add_plain (b o j : Nat) : (⟨b, o, none⟩ : Addr).add j = ⟨b, o + j, none⟩ := by
  unfold Addr.add
  split
  · rename_i h; subst h; rfl
  · rfl

theorem tyAgg_run {t : TypeId} {b : Bool} (h : tyAgg P t = some b) : (isAgg t).run P w = .ok b w := by
  unfold tyAgg at h
  cases hu : P.underlying t with
  | none => rw [hu] at h; cases h
  | some d =>
    rw [hu] at h
    cases d <;> simp at h <;> subst h <;> simp [isAgg, run_underlying hu]

theorem tySize_run {t : TypeId} {n : Nat} (h : tySize P t = some n) : (sizeOf t).run P w = .ok n w := by
  unfold tySize at h
  obtain ⟨i, hi, rfl⟩ := map_some' h
  simp [sizeOf, typeInfo, hi]

theorem zeroA_run {t : TypeId} {z : AV} (h : zeroA P t = some z) : ∃ zv, (∀ w, (zeroValue t).run P w = .ok zv w) ∧ (∀ m F, VRel m F z zv) ∧ ∃ i, P.info? t = some i ∧ i.zero = some zv := by
  unfold zeroA at h
  cases hi : P.info? t with
  | none => rw [hi] at h; cases h
  | some i =>
    rw [hi] at h
    cases hz : i.zero with
    | none => simp [hz] at h
    | some zv =>
      simp [hz] at h
      exact ⟨zv, fun w => by simp [zeroValue, typeInfo, hi, hz], fun m F => vrel_ofValue h, i, rfl, hz⟩

/-- An address: its cells. -/
theorem addrCells_rel (hi : Inv m F g w) {v : AV} {x : Value} (hv : VRel m F v x) {cs : List AV} (h : addrCells g v = some cs) :
    ∃ b o vs, x = .pointer (some ⟨b, o, none⟩) ∧ RelL m F cs vs ∧ ∀ j y, vs[j]? = some y → w.cell? ⟨b, o + j, none⟩ = some y := by
  cases hv with
  | fptr cs' b o vs hF hv =>
    cases h
    refine ⟨b, o, (List.range cs.length).map vs, rfl, RelL.of_get (by simp) fun i u hu => ?_, fun j y hy => ?_⟩
    · have hlt := (List.getElem?_eq_some_iff.1 hu).1
      exact ⟨vs i, by simp [hlt], hv i u hu⟩
    · by_cases hlt : j < cs.length
      · simp [hlt] at hy
        subst hy
        exact hi.froz _ _ _ (hF j _ (List.getElem?_eq_getElem hlt))
      · simp [hlt] at hy
  | ptr id ver off loc b hm hle hcur =>
    simp only [addrCells] at h
    cases hg : g id with
    | none => rw [hg] at h; cases h
    | some o =>
      rw [hg] at h
      cases o with
      | gone => cases h
      | map es => cases h
      | cells sz ver' fz c =>
        simp only at h
        split at h
        · rename_i hver
          cases h
          obtain ⟨l1, arr, e, h1, h2, h3, h4, h5, h6, h7, h8, h9⟩ := hi.objs id _ hg
          rw [hm] at h1
          cases h1
          have hb := hcur (by omega)
          subst hb
          refine ⟨loc.block, off, (arr.toList.take c.length).drop off, rfl, h8.drop off, fun j y hy => ?_⟩
          rw [List.getElem?_drop, List.getElem?_take] at hy
          split at hy
          · simp only [World.cell?, h5]
            simpa using hy
          · cases hy
        · cases h
  | _ => cases h

theorem loadFrom_rel {t : TypeId} {cs : List AV} {v : AV} (h : loadFrom P t cs = some v) {b o : Nat} {vs : List Value} (hr : RelL m F cs vs)
    (hc : ∀ j y, vs[j]? = some y → w.cell? ⟨b, o + j, none⟩ = some y) : ∃ cv, (loadVar t ⟨b, o, none⟩).run P w = .ok cv w ∧ VRel m F v cv := by
  unfold loadFrom at h
  cases ha : tyAgg P t with
  | none => rw [ha] at h; cases h
  | some ag =>
    rw [ha] at h
    cases ag with
    | false =>
      simp only at h
      have h0 : cs[0]? = some v := by rw [← h]; cases cs <;> rfl
      obtain ⟨y, hy, hvy⟩ := hr.get h0
      refine ⟨y, ?_, hvy⟩
      have := hc 0 y hy
      simp only [Nat.add_zero] at this
      simp [loadVar, tyAgg_run ha, this]
    | true =>
      simp only at h
      cases hs : tySize P t with
      | none => rw [hs] at h; cases h
      | some n =>
        rw [hs] at h
        simp only at h
        split at h
        · rename_i hn
          cases h
          have hl : (vs.take n).length = n := by rw [List.length_take, ← hr.1]; omega
          have hload := run_loadCells_list (P := P) w ⟨b, o, none⟩ (vs.take n) (fun j y hy => by
            rw [add_plain]
            rw [List.getElem?_take] at hy
            split at hy
            · exact hc j y hy
            · cases hy)
          rw [hl] at hload
          refine ⟨.agg (vs.take n).toArray, by simp [loadVar, tyAgg_run ha, tySize_run hs, hload], ?_⟩
          exact .agg _ _ (hr.take n).1 (hr.take n).2
        · cases h
end
end Go.Am
