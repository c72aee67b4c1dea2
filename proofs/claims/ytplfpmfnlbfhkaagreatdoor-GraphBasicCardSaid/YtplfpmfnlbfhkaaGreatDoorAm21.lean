/- What is noted of a step; a step at another place. -/
import Derived.Test.YtplfpmfnlbfhkaaGreatDoorAm20
set_option linter.unusedVariables false
set_option linter.unusedSimpArgs false
namespace Go.Am
open Go

mutual
theorem beq_eq : ∀ {x y : AV}, AV.beq x y = true → x = y
  | .bool a, y, h => by cases y <;> simp [AV.beq] at h; subst h; rfl
  | .int k a, y, h => by cases y <;> simp [AV.beq] at h; obtain ⟨h1, h2⟩ := h; subst h1 h2; rfl
  | .str a, y, h => by cases y <;> simp [AV.beq] at h; subst h; rfl
  | .row x a, y, h => by cases y <;> simp [AV.beq] at h; obtain ⟨h1, h2⟩ := h; rw [h1, beqL_eq h2]
  | .mrow a b c, y, h => by cases y <;> simp [AV.beq] at h; obtain ⟨⟨h1, h2⟩, h3⟩ := h; subst h1 h2 h3; rfl
  | .ptr a b c, y, h => by cases y <;> simp [AV.beq] at h; obtain ⟨⟨h1, h2⟩, h3⟩ := h; subst h1 h2 h3; rfl
  | .fptr a, y, h => by cases y <;> simp [AV.beq] at h; rw [beqL_eq h]
  | .nilptr, y, h => by cases y <;> simp [AV.beq] at h; rfl
  | .map a, y, h => by cases y <;> simp [AV.beq] at h; subst h; rfl
  | .nilmap, y, h => by cases y <;> simp [AV.beq] at h; rfl
  | .func f a b, y, h => by cases y <;> simp [AV.beq] at h; obtain ⟨⟨h1, h2⟩, h3⟩ := h; rw [h1, beqL_eq h2, beqL_eq h3]
  | .nilfunc, y, h => by cases y <;> simp [AV.beq] at h; rfl
  | .iface t v, y, h => by cases y <;> simp [AV.beq] at h; obtain ⟨h1, h2⟩ := h; rw [h1, beq_eq h2]
  | .niliface, y, h => by cases y <;> simp [AV.beq] at h; rfl
  | .agg a, y, h => by cases y <;> simp [AV.beq] at h; rw [beqL_eq h]
  | .tup a, y, h => by cases y <;> simp [AV.beq] at h; rw [beqL_eq h]
theorem beqL_eq : ∀ {x y : List AV}, beqL x y = true → x = y
  | [], [], _ => rfl
  | [], _ :: _, h => by simp [beqL] at h
  | _ :: _, [], h => by simp [beqL] at h
  | a :: as, b :: bs, h => by
    simp only [beqL, Bool.and_eq_true] at h
    rw [beq_eq h.1, beqL_eq h.2]
end
theorem beqP_eq : ∀ {x y : List (AV × AV)}, beqP x y = true → x = y
  | [], [], _ => rfl
  | [], _ :: _, h => by simp [beqP] at h
  | _ :: _, [], h => by simp [beqP] at h
  | (a, c) :: as, (b, d) :: bs, h => by
    simp only [beqP, Bool.and_eq_true] at h
    rw [beq_eq h.1.1, beq_eq h.1.2, beqP_eq h.2]
theorem beqO_eq : ∀ {x y : AObj}, x.beq y = true → x = y
  | .gone, y, h => by cases y <;> simp [AObj.beq] at h; rfl
  | .cells a b c l, y, h => by cases y <;> simp [AObj.beq] at h; obtain ⟨⟨⟨h1, h2⟩, h3⟩, h4⟩ := h; rw [h1, h2, h3, beqL_eq h4]
  | .map l, y, h => by cases y <;> simp [AObj.beq] at h; rw [beqP_eq h]

theorem idxFrom_spec : ∀ (i : Nat) (a : Heap) (id : Nat), i + id ∉ idxFrom i a → a[id]? = none
  | i, [], id, _ => by simp
  | i, x :: xs, id, h => by
    simp only [idxFrom, List.mem_cons, not_or] at h
    cases id with
    | zero => exact absurd rfl h.1
    | succ id =>
      have := idxFrom_spec (i + 1) xs id (by rw [show i + 1 + id = i + (id + 1) by omega]; exact h.2)
      simpa using this
theorem diffH_spec : ∀ (i : Nat) (a b : Heap) (id : Nat), i + id ∉ diffH i a b → b[id]? = a[id]?
  | i, a, [], id, h => by
    simp only [diffH] at h
    rw [idxFrom_spec i a id h]; simp
  | i, [], y :: ys, id, h => by
    simp only [diffH, List.mem_cons, not_or] at h
    cases id with
    | zero => exact absurd rfl h.1
    | succ id =>
      have := diffH_spec (i + 1) [] ys id (by rw [show i + 1 + id = i + (id + 1) by omega]; exact h.2)
      simpa using this
  | i, x :: xs, y :: ys, id, h => by
    simp only [diffH] at h
    split at h
    · rename_i hb
      cases id with
      | zero => simp [beqO_eq hb]
      | succ id =>
        have := diffH_spec (i + 1) xs ys id (by rw [show i + 1 + id = i + (id + 1) by omega]; exact h)
        simpa using this
    · simp only [List.mem_cons, not_or] at h
      cases id with
      | zero => exact absurd rfl h.1
      | succ id =>
        have := diffH_spec (i + 1) xs ys id (by rw [show i + 1 + id = i + (id + 1) by omega]; exact h.2)
        simpa using this

/-- Slots and objects, at a place of a region. -/
structure VFr (P : Program) (m : MMap) (F : FMap) (S : Nat → AV) (G : Look) (d : List (FuncId × List AV)) (n : Nat) (a : Act) (w : World) : Prop where
  inv : Inv m F G w
  sl : ∀ j, VRel m F (S j) (a.tmps.getD j Go.undef)
  nn : a.tmps.size = n
  de : DRel P m F d a.defers

def opV (S : Nat → AV) : Operand → Option AV
  | .tmp t => some (S t)
  | .const v => ofValue 3 v
  | .func f => some (.func f [] [])
  | .global _ => none

theorem opnd_V (s : List AV) : opnd s = opV (sget s) := by funext x; cases x <;> rfl

def wantedV (ops : Array Oper) (S : Nat → AV) (o : Oper) : Bool :=
  match o.guard with
  | none => true
  | some (j, want) => match (ops[j]?).bind (·.dst) with
    | some d => match S d with
      | .bool b => b == want
      | _ => false
    | none => false
theorem wanted_V (ops : Array Oper) (s : List AV) (o : Oper) : wantedA ops s o = wantedV ops (sget s) o := rfl

section
variable {E : Env} {rec : Code → Fr → Option (Ex × Fr)} {m m' : MMap} {F F' : FMap} {w w' : World} {S : Nat → AV} {G : Look} {P : Program} {d : List (FuncId × List AV)} {n : Nat} {a : Act}

theorem VFr.wanted (hf : VFr P m F S G d n a w) (ops : Array Oper) (o : Oper) : Region.wanted o (yielded ops a.tmps) = wantedV ops S o := by
  unfold Region.wanted wantedV
  cases hg : o.guard with
  | none => rfl
  | some p =>
    obtain ⟨j, want⟩ := p
    simp only
    unfold yielded
    cases hd : (ops[j]?).bind (·.dst) with
    | none => rfl
    | some d =>
      simp only [Option.bind_some]
      have hs := hf.sl d
      cases ht : a.tmps[d]? with
      | none =>
        have : a.tmps.getD d Go.undef = Go.undef := by rw [Array.getD_eq_getD_getElem?, ht]; rfl
        rw [this] at hs
        generalize hb : S d = b at hs
        cases b <;> first | rfl | (cases hs; done)
      | some y =>
        have : a.tmps.getD d Go.undef = y := by rw [Array.getD_eq_getD_getElem?, ht]; rfl
        rw [this] at hs
        generalize hb : S d = b at hs
        cases hs <;> first | rfl | (rename_i b; cases b <;> cases want <;> rfl)

theorem VFr.opv (hf : VFr P m F S G d n a w) {x : Operand} {v : AV} (h : opV S x = some v) : VRel m F v (a.eval x) := by
  cases x with
  | tmp t => cases h; exact hf.sl t
  | const c => exact vrel_ofValue h
  | global gl => cases h
  | func f => cases h; exact .func f [] [] [] [] rfl rfl (fun i u v hu => by simp at hu) (fun i u v hu => by simp at hu)

def putV (S : Nat → AV) (dst : Option Nat) (v : AV) : Nat → AV := fun j => if dst = some j then v else S j

theorem VFr.put (hf : VFr P m F S G d n a w) {dst : Option Nat} {v : AV} {cv : Value} (hv : VRel m F v cv) (hd : ∀ t, dst = some t → t < n) : VFr P m F (putV S dst v) G d n (a.put dst cv) w := by
  cases dst with
  | none => exact ⟨hf.inv, fun j => by simpa [putV, Act.put] using hf.sl j, hf.nn, hf.de⟩
  | some t =>
    have hlt : t < a.tmps.size := by rw [hf.nn]; exact hd t rfl
    refine ⟨hf.inv, fun j => ?_, by simpa [Act.put] using hf.nn, hf.de⟩
    simp only [Act.put, putV]
    rw [Array.getD_eq_getD_getElem?, Array.getElem?_setIfInBounds]
    by_cases hj : t = j
    · subst hj; simp [hlt]; exact hv
    · rw [if_neg hj, if_neg (by simpa using hj), ← Array.getD_eq_getD_getElem?]; exact hf.sl j

theorem VFr.move (hf : VFr P m F S G d n a w) {G' : Look} (hi : Inv m' F' G' w') (he : Ext m F w m' F' w') : VFr P m' F' S G' d n a w' :=
  ⟨hi, fun j => (hf.sl j).mono he.grow, hf.nn, hf.de.mono he.grow⟩

theorem callee_frame {ρ ρ' : Operand → Option AV} {c : Call} (h : ∀ x ∈ c.operands.toList, ρ' x = ρ x) : calleeA P ρ' c = calleeA P ρ c := by
  have hargs : mapO ρ' c.args.toList = mapO ρ c.args.toList := mapO_congr fun x hx => h x (by simp [Call.operands]; exact .inr (by simpa using hx))
  unfold calleeA
  rw [hargs]
  cases hc : c.callee with
  | value f => simp only [h f (by simp [Call.operands, hc])]
  | invoke recv name => simp only [h recv (by simp [Call.operands, hc])]
  | builtin b => rfl

theorem looksAt_opnd {ops : Array Oper} {o : Oper} {S' : Nat → AV} (h : ∀ t ∈ o.looksAt ops, S' t = S t) : ∀ x ∈ o.op.operands.toList, opV S' x = opV S x := by
  intro x hx
  cases x with
  | tmp t =>
    simp only [opV]
    rw [h t]
    unfold Oper.looksAt
    exact List.mem_append.2 (.inl (List.mem_filterMap.2 ⟨.tmp t, hx, rfl⟩))
  | _ => rfl
theorem looksAt_wanted {ops : Array Oper} {o : Oper} {S' : Nat → AV} (h : ∀ t ∈ o.looksAt ops, S' t = S t) : wantedV ops S' o = wantedV ops S o := by
  unfold wantedV
  cases hg : o.guard with
  | none => rfl
  | some p =>
    obtain ⟨j, want⟩ := p
    simp only
    cases hd : (ops[j]?).bind (·.dst) with
    | none => rfl
    | some t =>
      simp only
      rw [h t]
      unfold Oper.looksAt
      rw [hg]
      simp [hd]

theorem updU_at : ∀ (u : Ups) (g g' : Look) (id : Nat), (id ∈ u.map (·.1) → updU g' u id = updU g u id) ∧ (id ∉ u.map (·.1) → updU g u id = g id)
  | [], g, g', id => ⟨fun h => by simp at h, fun _ => rfl⟩
  | p :: u, g, g', id => by
    obtain ⟨h1, h2⟩ := updU_at u (upd g p.1 p.2) (upd g' p.1 p.2) id
    obtain ⟨-, h3⟩ := updU_at u (upd g' p.1 p.2) (upd g' p.1 p.2) id
    change (id ∈ (p :: u).map (·.1) → updU (upd g' p.1 p.2) u id = updU (upd g p.1 p.2) u id) ∧ (id ∉ (p :: u).map (·.1) → updU (upd g p.1 p.2) u id = g id)
    refine ⟨fun h => ?_, fun h => ?_⟩
    · by_cases hu : id ∈ u.map (·.1)
      · exact h1 hu
      · rw [h2 hu, h3 hu]
        simp only [List.map_cons, List.mem_cons, hu, or_false] at h
        subst h; simp [upd]
    · simp only [List.map_cons, List.mem_cons, not_or] at h
      rw [h2 h.2]
      simp [upd, h.1]

theorem look_put {h : Heap} {p : Nat × AObj} (hlt : p.1 < h.length) : look (putH h p) = upd (look h) p.1 p.2 := by
  funext i
  simp only [look, putH, if_pos hlt, upd, List.getElem?_set]
  by_cases hi : i = p.1
  · subst hi; simp [hlt]
  · rw [if_neg hi, if_neg (fun e => hi e.symm)]
theorem putH_length {h : Heap} {p : Nat × AObj} (hlt : p.1 < h.length) : (putH h p).length = h.length := by simp [putH, hlt]

theorem look_apply : ∀ (u : Ups) (h : Heap), (∀ p ∈ u, p.1 < h.length) → look (applyU h u) = updU (look h) u
  | [], h, _ => rfl
  | p :: u, h, hu => by
    have hp := hu p List.mem_cons_self
    have := look_apply u (putH h p) fun q hq => by rw [putH_length hp]; exact hu q (List.mem_cons_of_mem _ hq)
    rw [look_put hp] at this
    exact this

theorem wrOk_spec {k : Nat} {foot : List Nat} {u : Ups} (h : wrOk k foot u = true) : ∀ p ∈ u, p.1 < k ∧ p.1 ∈ foot := by
  intro p hp
  have := List.all_eq_true.1 h p hp
  simpa using this

theorem putN_spec {f f' : Fr} {dst : Option Nat} {v : AV} {t t' : Note} (h : putN f dst v t = some (f', t')) :
    t' = t ∧ f'.n = f.n ∧ f'.h = f.h ∧ f'.d = f.d ∧ (∀ j, dst = some j → j < f.n) ∧ ∀ j, sget f'.s j = putV (sget f.s) dst v j := by
  unfold putN at h
  split at h
  · rename_i f1 hp
    cases h
    cases dst with
    | none => cases hp; exact ⟨rfl, rfl, rfl, rfl, fun j h => (by cases h), fun j => rfl⟩
    | some k =>
      simp only [putS] at hp
      split at hp
      · rename_i hk
        cases hp
        refine ⟨rfl, rfl, rfl, rfl, fun j h => by cases h; exact hk, fun j => ?_⟩
        simp only [putV, sget_sset, Option.some.injEq]
        by_cases hj : j = k
        · subst hj; simp
        · rw [if_neg hj, if_neg (fun e => hj e.symm)]
      · cases hp
  · cases h
end
end Go.Am
