/- What an abstract value stands for, in a world. -/
import Derived.Test.YtplfpmfnlbfhkaaGreatDoorAm2
import Derived.Below
set_option linter.unusedVariables false
set_option linter.unusedSimpArgs false
namespace Go.Am
open Go

/-- Where an object lies: a block, of how many elements of how many cells; in which version. -/
structure Loc where
  block : Nat
  ver : Nat
  size : Nat
  cap : Nat
  mp : Bool

abbrev MMap := Nat → Option Loc
abbrev FMap := Nat → Nat → Option Value

inductive VRel (m : MMap) (F : FMap) : AV → Value → Prop where
  | bool (b : Bool) : VRel m F (.bool b) (.bool b)
  | int (k : IntKind) (n : Int) : VRel m F (.int k n) (.int k n)
  | str (s : List UInt8) : VRel m F (.str s) (.string ⟨⟨s⟩⟩)
  | row (ex : Bool) (l : List AV) (a : Option Addr) (cap : Nat) (b o size : Nat) (vs : Nat → Nat → Value)
      (hex : ex = true → cap = l.length) (hcap : l.length ≤ cap) (ha : l ≠ [] → a = some ⟨b, o, none⟩)
      (hs : ∀ (i : Nat) (e : AV), l[i]? = some e → e.cells.length = size)
      (hF : ∀ (i : Nat) (e : AV) (j : Nat) (c : AV), l[i]? = some e → e.cells[j]? = some c → F b (o + i * size + j) = some (vs i j))
      (hv : ∀ (i : Nat) (e : AV) (j : Nat) (c : AV), l[i]? = some e → e.cells[j]? = some c → VRel m F c (vs i j)) : VRel m F (.row ex l) (.slice a l.length cap)
  | mrow (id ver len : Nat) (loc : Loc) (b cap : Nat) (hm : m id = some loc) (hle : ver ≤ loc.ver) (hc : len ≤ cap)
      (hcur : ver = loc.ver → b = loc.block ∧ cap = loc.cap) : VRel m F (.mrow id ver len) (.slice (some ⟨b, 0, none⟩) len cap)
  | ptr (id ver off : Nat) (loc : Loc) (b : Nat) (hm : m id = some loc) (hle : ver ≤ loc.ver)
      (hcur : ver = loc.ver → b = loc.block) : VRel m F (.ptr id ver off) (.pointer (some ⟨b, off, none⟩))
  | fptr (cs : List AV) (b o : Nat) (vs : Nat → Value) (hF : ∀ (j : Nat) (c : AV), cs[j]? = some c → F b (o + j) = some (vs j))
      (hv : ∀ (j : Nat) (c : AV), cs[j]? = some c → VRel m F c (vs j)) : VRel m F (.fptr cs) (.pointer (some ⟨b, o, none⟩))
  | nilptr : VRel m F .nilptr (.pointer none)
  | map (id : Nat) (loc : Loc) (hm : m id = some loc) (h0 : loc.mp = true) : VRel m F (.map id) (.map (some loc.block))
  | nilmap : VRel m F .nilmap (.map none)
  | func (f : FuncId) (a b : List AV) (x y : List Value) (ha : a.length = x.length) (hb : b.length = y.length)
      (h1 : ∀ (i : Nat) u v, a[i]? = some u → x[i]? = some v → VRel m F u v)
      (h2 : ∀ (i : Nat) u v, b[i]? = some u → y[i]? = some v → VRel m F u v) : VRel m F (.func f a b) (.func (.func f) ⟨x⟩ ⟨y⟩)
  | nilfunc : VRel m F .nilfunc .nilFunc
  | iface (t : TypeId) (v : AV) (x : Value) (h : VRel m F v x) : VRel m F (.iface t v) (.iface t x)
  | niliface : VRel m F .niliface .nilIface
  | agg (a : List AV) (x : List Value) (ha : a.length = x.length)
      (h1 : ∀ (i : Nat) u v, a[i]? = some u → x[i]? = some v → VRel m F u v) : VRel m F (.agg a) (.agg ⟨x⟩)
  | tup (a : List AV) (x : List Value) (ha : a.length = x.length)
      (h1 : ∀ (i : Nat) u v, a[i]? = some u → x[i]? = some v → VRel m F u v) : VRel m F (.tup a) (.tuple ⟨x⟩)

def RelL (m : MMap) (F : FMap) (a : List AV) (x : List Value) : Prop :=
  a.length = x.length ∧ ∀ (i : Nat) u v, a[i]? = some u → x[i]? = some v → VRel m F u v

section
variable {m m' : MMap} {F F' : FMap}

theorem RelL.nil : RelL m F [] [] := ⟨rfl, fun i u v h => by simp at h⟩
theorem RelL.cons {a : AV} {x : Value} {as : List AV} {xs : List Value} (h : VRel m F a x) (hs : RelL m F as xs) : RelL m F (a :: as) (x :: xs) := by
  refine ⟨by simp [hs.1], fun i u v hu hv => ?_⟩
  cases i with
  | zero => simp at hu hv; subst hu; subst hv; exact h
  | succ i => simp at hu hv; exact hs.2 i u v hu hv
theorem RelL.head {a : AV} {x : Value} {as : List AV} {xs : List Value} (h : RelL m F (a :: as) (x :: xs)) : VRel m F a x := h.2 0 a x rfl rfl
theorem RelL.tail {a : AV} {x : Value} {as : List AV} {xs : List Value} (h : RelL m F (a :: as) (x :: xs)) : RelL m F as xs :=
  ⟨by have := h.1; simpa using this, fun i u v hu hv => h.2 (i + 1) u v (by simpa using hu) (by simpa using hv)⟩
theorem RelL.nil_left {x : List Value} (h : RelL m F [] x) : x = [] := List.eq_nil_of_length_eq_zero h.1.symm
theorem RelL.cons_left {a : AV} {as : List AV} {x : List Value} (h : RelL m F (a :: as) x) : ∃ y ys, x = y :: ys ∧ VRel m F a y ∧ RelL m F as ys := by
  cases x with
  | nil => exact absurd h.1 (by simp)
  | cons y ys => exact ⟨y, ys, rfl, h.head, h.tail⟩
theorem RelL.append {a b : List AV} {x y : List Value} (h : RelL m F a x) (k : RelL m F b y) : RelL m F (a ++ b) (x ++ y) := by
  induction a generalizing x with
  | nil => rw [h.nil_left]; exact k
  | cons c cs ih =>
    obtain ⟨z, zs, rfl, h1, h2⟩ := h.cons_left
    exact RelL.cons h1 (ih h2)
theorem RelL.get {a : List AV} {x : List Value} (h : RelL m F a x) {i : Nat} {u : AV} (hu : a[i]? = some u) : ∃ v, x[i]? = some v ∧ VRel m F u v := by
  have hlt : i < x.length := by rw [← h.1]; exact (List.getElem?_eq_some_iff.1 hu).1
  exact ⟨x[i], List.getElem?_eq_getElem hlt, h.2 i u _ hu (List.getElem?_eq_getElem hlt)⟩
theorem RelL.take {a : List AV} {x : List Value} (h : RelL m F a x) (n : Nat) : RelL m F (a.take n) (x.take n) := by
  refine ⟨by rw [List.length_take, List.length_take, h.1], fun i u v hu hv => ?_⟩
  rw [List.getElem?_take] at hu hv
  split at hu
  · rename_i hi; rw [if_pos hi] at hv; exact h.2 i u v hu hv
  · cases hu
theorem RelL.drop {a : List AV} {x : List Value} (h : RelL m F a x) (n : Nat) : RelL m F (a.drop n) (x.drop n) := by
  refine ⟨by simp [h.1], fun i u v hu hv => ?_⟩
  rw [List.getElem?_drop] at hu hv
  exact h.2 _ u v hu hv
theorem RelL.of_get {a : List AV} {x : List Value} (hl : a.length = x.length) (h : ∀ (i : Nat) u, a[i]? = some u → ∃ v, x[i]? = some v ∧ VRel m F u v) : RelL m F a x :=
  ⟨hl, fun i u v hu hv => by obtain ⟨v', hv', hr⟩ := h i u hu; rw [hv] at hv'; cases hv'; exact hr⟩
theorem RelL.set {a : List AV} {x : List Value} (h : RelL m F a x) (i : Nat) {u : AV} {v : Value} (hr : VRel m F u v) : RelL m F (a.set i u) (x.set i v) := by
  refine ⟨by simp [h.1], fun j p q hp hq => ?_⟩
  rw [List.getElem?_set] at hp hq
  split at hp
  · rename_i hij
    rw [if_pos hij] at hq
    split at hp
    · rename_i hl; rw [if_pos (by rw [← h.1]; exact hl)] at hq; cases hp; cases hq; exact hr
    · cases hp
  · rename_i hij; rw [if_neg hij] at hq; exact h.2 j p q hp hq

/-- The numbers that stand for more stand for what they stood for. -/
structure Grow (m m' : MMap) (F F' : FMap) : Prop where
  mm : ∀ id loc, m id = some loc → ∃ loc', m' id = some loc' ∧ loc.ver ≤ loc'.ver ∧ (loc'.ver = loc.ver → loc' = loc) ∧ (loc.mp = true → loc' = loc)
  ff : ∀ b j v, F b j = some v → F' b j = some v

theorem Grow.refl : Grow m m F F := ⟨fun id loc h => ⟨loc, h, Nat.le_refl _, fun _ => rfl, fun _ => rfl⟩, fun _ _ _ h => h⟩
theorem Grow.trans {m'' : MMap} {F'' : FMap} (h : Grow m m' F F') (k : Grow m' m'' F' F'') : Grow m m'' F F'' := by
  refine ⟨fun id loc hl => ?_, fun b j v hf => k.ff _ _ _ (h.ff _ _ _ hf)⟩
  obtain ⟨l1, h1, h2, h3, h4⟩ := h.mm id loc hl
  obtain ⟨l2, k1, k2, k3, k4⟩ := k.mm id l1 h1
  refine ⟨l2, k1, Nat.le_trans h2 k2, fun e => ?_, fun e => ?_⟩
  · have e1 : l1.ver = loc.ver := by omega
    rw [k3 (by omega), h3 e1]
  · have e1 := h4 e
    subst e1
    exact k4 e

theorem VRel.mono (hg : Grow m m' F F') {a : AV} {x : Value} (h : VRel m F a x) : VRel m' F' a x := by
  induction h with
  | bool b => exact .bool b
  | int k n => exact .int k n
  | str s => exact .str s
  | row ex l a cap b o size vs hex hcap ha hs hF hv ih =>
    exact .row ex l a cap b o size vs hex hcap ha hs (fun i e j c hi hj => hg.ff _ _ _ (hF i e j c hi hj)) ih
  | mrow id ver len loc b cap hm hle hc hcur =>
    obtain ⟨l1, h1, h2, h3, h4⟩ := hg.mm id loc hm
    refine .mrow id ver len l1 b cap h1 (by omega) hc fun e => ?_
    have := h3 (by omega)
    subst this
    exact hcur e
  | ptr id ver off loc b hm hle hcur =>
    obtain ⟨l1, h1, h2, h3, h4⟩ := hg.mm id loc hm
    refine .ptr id ver off l1 b h1 (by omega) fun e => ?_
    have := h3 (by omega)
    subst this
    exact hcur e
  | fptr cs b o vs hF hv ih => exact .fptr cs b o vs (fun j c hj => hg.ff _ _ _ (hF j c hj)) ih
  | nilptr => exact .nilptr
  | map id loc hm h0 =>
    obtain ⟨l1, h1, h2, h3, h4⟩ := hg.mm id loc hm
    have := h4 h0
    subst this
    exact .map id _ h1 h0
  | nilmap => exact .nilmap
  | func f a b x y ha hb h1 h2 i1 i2 => exact .func f a b x y ha hb i1 i2
  | nilfunc => exact .nilfunc
  | iface t v x h ih => exact .iface t v x ih
  | niliface => exact .niliface
  | agg a x ha h1 ih => exact .agg a x ha ih
  | tup a x ha h1 ih => exact .tup a x ha ih
end
end Go.Am
