/- More functions that are told by a rule of their own; the evaluator's word as a call's contract. -/
import Derived.Test.YtplfpmfnlbfhkaaGreatDoorAm25
import Derived.Below
set_option linter.unusedVariables false
set_option linter.unusedSimpArgs false
namespace Go.Am
open Go

section
variable {P : Program} {m m' : MMap} {F F' : FMap} {w w' : World}

def cloneTyB (P : Program) (T : TypeId) (sz : Nat) : Bool :=
  match P.underlying T with
  | some (.slice e) => match P.info? e with
    | some i => i.size == sz && sz != 0 && decide (i.bytes ≤ 32768) && zeroOk P e sz
    | none => false
  | _ => false
theorem cloneTy_of {T : TypeId} {sz : Nat} (h : cloneTyB P T sz = true) : CloneTy P T sz := by
  unfold cloneTyB at h
  split at h
  · rename_i e hu
    split at h
    · rename_i i hi
      simp only [Bool.and_eq_true, beq_iff_eq, bne_iff_ne, decide_eq_true_eq] at h
      exact ⟨e, i, hu, hi, h.1.1.1, h.1.1.2, h.1.2, h.2⟩
    · cases h
  · cases h

theorem clone_frame {sz nid : Nat} {args : List AV} {g g' : Look} (h : ∀ id ∈ args.flatMap idOf, g' id = g id) : iClone sz nid args g' = iClone sz nid args g := by
  match args with
  | [] => rfl
  | [x] => simp only [iClone, srcCells_frame sz fun id hid => h id (by simpa using hid)]
  | x :: y :: l => rfl

theorem firstIdxA_eq (c : UInt8) : ∀ (l : List UInt8) (k : Nat), firstIdxA c l k = (match (List.range l.length).find? fun i => l.getD i 0 == c with
    | some i => ((i + k : Nat) : Int)
    | none => -1)
  | [], k => rfl
  | b :: l, k => by
    simp only [firstIdxA, List.length_cons, List.range_succ_eq_map, List.find?_cons]
    by_cases hb : b = c
    · simp [hb]
    · have h1 : ((b :: l).getD 0 0 == c) = false := by simpa using hb
      rw [h1, if_neg hb, firstIdxA_eq c l (k + 1), List.find?_map]
      have : ((fun i => (b :: l).getD i 0 == c) ∘ Nat.succ) = fun i => l.getD i 0 == c := by funext i; simp
      rw [this]
      cases (List.range l.length).find? fun i => l.getD i 0 == c with
      | none => rfl
      | some i =>
        change (((i + (k + 1) : Nat)) : Int) = ((i + 1 + k : Nat) : Int)
        omega

theorem bytes_get (l : List UInt8) (i : Nat) (h : i < l.length) : (⟨⟨l⟩⟩ : ByteArray)[i]! = l.getD i 0 := by
  have hsz : i < (⟨⟨l⟩⟩ : ByteArray).size := h
  rw [getElem!_pos (⟨⟨l⟩⟩ : ByteArray) i hsz, List.getD_eq_getElem?_getD, List.getElem?_eq_getElem h]
  rfl

theorem find_congr {α : Type} {p q : α → Bool} : ∀ {l : List α}, (∀ x ∈ l, p x = q x) → l.find? p = l.find? q
  | [], _ => rfl
  | x :: l, h => by
    simp only [List.find?_cons, h x List.mem_cons_self]
    rw [find_congr fun y hy => h y (List.mem_cons_of_mem _ hy)]

theorem firstIdx_eq (l : List UInt8) (c : UInt8) : firstIdx ⟨⟨l⟩⟩ c = firstIdxA c l 0 := by
  rw [firstIdxA_eq]
  unfold firstIdx
  have hs : (⟨⟨l⟩⟩ : ByteArray).size = l.length := rfl
  rw [hs]
  have : (List.range l.length).find? (fun i => (⟨⟨l⟩⟩ : ByteArray)[i]! == c) = (List.range l.length).find? fun i => l.getD i 0 == c :=
    find_congr fun i hi => by rw [bytes_get l i (List.mem_range.1 hi)]
  rw [this]
  cases (List.range l.length).find? fun i => l.getD i 0 == c with
  | none => rfl
  | some i => rfl

theorem index_frame {nid : Nat} {args : List AV} {g g' : Look} (h : ∀ id ∈ args.flatMap idOf, g' id = g id) : iIndexByte nid args g' = iIndexByte nid args g := rfl

theorem indexByte_ok {f : FuncId} {fn : Func} (hf : P.funcs[f]? = some fn) (hname : (fn.name == "runtime.NumGoroutine") = false)
    (hb : fn.body.isNone = true) (hn : Extern.findNext fn = none) (he : Extern.find fn = some Extern.BytealgIndexByte.indexByte) : IntrOk P f iIndexByte := by
  intro m F g w nid args x v u hi hm hx h
  unfold iIndexByte at h
  split at h
  · rename_i s c
    cases h
    obtain ⟨xs⟩ := x
    obtain ⟨y, ys, rfl, h1, h2⟩ := hx.cons_left
    obtain ⟨z, zs, rfl, h3, h4⟩ := h2.cons_left
    have := h4.nil_left; subst this
    cases h1; cases h3
    refine .inr ⟨.int .i64 (firstIdx ⟨⟨s⟩⟩ c.toNat.toUInt8), w, ?_, m, F, ?_, hi, Ext.refl⟩
    · rw [run_callFunc_indexByte hf hname hb hn he, run_indexByte_string]; rfl
    · rw [firstIdx_eq]
      exact .int _ _
  · cases h

/-- A function of the make 'if x := recover(); x != nil {..}'. -/
structure RecoverIs (fn : Func) (T : TypeId) : Prop where
  body : ∃ (i0 i1 : Nat) (o0 o1 p0 p1 : Oper) (c : Code), fn.body = some (.seq (.region i0 #[o0, o1] false) (.seq (.region i1 #[p0, p1] false) (.cond (.tmp 7) c .skip))) ∧
    opKey o0 = (some 5, .call { callee := .builtin .recover, args := #[], argTypes := #[] }, none) ∧ opKey o1 = (some 2, .assign (.tmp 5), none) ∧
    opKey p0 = (some 6, .move (.tmp 2), none) ∧ opKey p1 = (some 7, .binOp .neq T (.tmp 6) (.const .nilIface) T, none)
  res : fn.results = #[]
  nt : 8 ≤ fn.ntmps

theorem recover_ok {f : FuncId} {fn : Func} {T : TypeId} (hf : P.funcs[f]? = some fn) (hname : (fn.name == "runtime.NumGoroutine") = false) (hr : RecoverIs fn T)
    (hT : P.underlying T = some (.interface (P.methodsAt T))) (x : Array Value) (w : World) :
    (callFunc f x).run P w = .ok (.enter f x) w ∧ CallsD P f x .returning w fun e u' w' => u' = .returning ∧ (∃ v, e = .returned v) ∧ w' = w := by
  obtain ⟨i0, i1, o0, o1, p0, p1, c, hb, ho0, ho1, hp0, hp1⟩ := hr.body
  simp only [opKey, Prod.mk.injEq] at ho0 ho1 hp0 hp1
  constructor
  · have h2 : fn.name ≠ "runtime.NumGoroutine" := by simpa using hname
    have h3 : ¬ fn.body = none := by rw [hb]; simp
    simp [callFunc, hf, h2, h3]
  · refine callsD_of_wpS hf hb fun c₀ cs hc₀ => ?_
    have hsize : 8 ≤ (x ++ Array.replicate (fn.ntmps - x.size) Go.undef).size := by simp; have := hr.nt; omega
    generalize x ++ Array.replicate (fn.ntmps - x.size) Go.undef = T0 at hsize
    have hrec : recoverD (c₀ :: cs) = none := by simp [recoverD, hc₀]
    have key : ∀ (o : Oper) (T0 : Array Value), o.guard = none → Region.wanted o (yielded #[] T0) = true := fun o T0 h => by simp [Region.wanted, h]
    have w0 : ∀ (o : Oper) (ops : Array Oper) (T0 : Array Value), o.guard = none → Region.wanted o (yielded ops T0) = true := fun o ops T0 h => by simp [Region.wanted, h]
    refine wpS_seq (wpS_region ?_)
    have r2 : List.range (#[o0, o1] : Array Oper).size = [0, 1] := rfl
    have r3 : List.range (#[p0, p1] : Array Oper).size = [0, 1] := rfl
    rw [r2]
    have g0 : (#[o0, o1] : Array Oper)[0]? = some o0 := rfl
    have g1 : (#[o0, o1] : Array Oper)[1]? = some o1 := rfl
    have g2 : (#[p0, p1] : Array Oper)[0]? = some p0 := rfl
    have g3 : (#[p0, p1] : Array Oper)[1]? = some p1 := rfl
    simp only [wpOpsS, g0, g1]
    rw [if_pos (w0 _ _ _ ho0.2.2)]
    have e0 : ∀ (ρ : Operand → Value), (execOp ρ o0).run P w = .ok .recover w := fun ρ => by
      unfold execOp
      rw [ho0.2.1]
      simp [resolve, invoke, builtin]
    rw [e0]
    simp only [hrec]
    rw [if_pos (w0 _ _ _ ho1.2.2)]
    have e1 : ∀ (ρ : Operand → Value), (execOp ρ o1).run P w = .ok (.value (ρ (.tmp 5))) w := fun ρ => by
      unfold execOp
      rw [ho1.2.1]
      exact Sem.run_pure ..
    rw [e1]
    simp only [Oper.upon_value]
    change Code.wpS P _ _ _ _ w
    refine wpS_seq (wpS_region ?_)
    rw [r3]
    simp only [wpOpsS, g2, g3]
    rw [if_pos (w0 _ _ _ hp0.2.2)]
    have e2 : ∀ (ρ : Operand → Value), (execOp ρ p0).run P w = .ok (.value (ρ (.tmp 2))) w := fun ρ => by
      unfold execOp
      rw [hp0.2.1]
      exact Sem.run_pure ..
    rw [e2]
    simp only [Oper.upon_value]
    rw [if_pos (w0 _ _ _ hp1.2.2)]
    have e3 : ∀ (ρ : Operand → Value), ρ (.tmp 6) = .nilIface → ρ (.const .nilIface) = .nilIface → (execOp ρ p1).run P w = .ok (.value (.bool false)) w := fun ρ h1 h2 => by
      unfold execOp
      rw [hp1.2.1]
      simp only [h1, h2]
      have hg : (eqGuard .neq T (.tmp 6) (.const .nilIface) .nilIface .nilIface).run P w = .ok () w := by simp [eqGuard]
      simp only [Sem.run_bind, hg, Result.andThen_ok, run_neq_nil_nil w T hT, Sem.run_pure]
    have h8 : ∀ k, k < 8 → k < T0.size := fun k hk => by omega
    rw [e3]
    · simp only [Oper.upon_value]
      change Code.wpS P _ _ _ _ w
      refine wpS_cond (t := false) ?_ ?_
      · simp [Act.put, Act.eval, hp1.1, hp0.1, ho1.1, ho0.1, h8]
      · refine wpS_of_wp (wp_skip ?_)
        refine ⟨by simp [Act.put, hp1.1, hp0.1, ho1.1, ho0.1], .returning, by rw [← hc₀], .tuple #[], ?_, rfl, ⟨_, rfl⟩, rfl⟩
        simp [results, hr.res]
    · simp [Act.put, Act.eval, hp1.1, hp0.1, ho1.1, ho0.1, h8]
    · rfl

/-- The evaluator's word on a call with values in which nothing is an object's: a contract. -/
theorem pure_calls {E : Env} (hE : EnvOk E) {n nid : Nat} {k : FuncId} {fn : Func} (hf : E.P.funcs[k]? = some fn) (hb : fn.body.isSome = true) (hI : E.I k = none) {args : List AV} {v : AV} {h' : Heap}
    (hc : callG E (evC E n) nid k args [] = some (v, h')) (hn : nfL args = true) (hvn : v.nf = true) {F : FMap} (hF : ∀ b j y, F b j = some y → w.cell? ⟨b, j, none⟩ = some y)
    {x : Array Value} (hx : RelL noM F args x.toList) :
    Calls E.P k x w fun e w' => ∃ cv F', e = .returned cv ∧ VRel noM F' v cv ∧ (∀ b j y, F b j = some y → F' b j = some y) ∧ RowKit.Below w.heap.size w w' := by
  have hi : Inv noM F (look []) w := ⟨fun id o ho => (by simp [look] at ho), fun i j li lj h => (by cases h), fun id loc h => (by cases h), fun id loc h => (by cases h), hF⟩
  rcases nfcall_ok hE (evC_ok hE n) hI hc hn hvn hi hx with ⟨h1, h2⟩ | ⟨cv, w', h1, h2⟩
  · refine h2.mono fun e w' ⟨cv, he, F', k1, k2, k3⟩ => ⟨cv, F', he, k1, k3.grow.ff, ?_⟩
    exact ⟨k3.os, k3.tape, k3.output, k3.size, fun b hb => k3.frame b hb fun id loc h => by cases h⟩
  · have := callFunc_enter hE hf hb x w
    rw [this] at h1
    cases h1
end
end Go.Am
