/- runes.Bad, at bytes each below 128: -1. -/
import Derived.RangeFuncNested
import Derived.RangeFuncBound
import Derived.RangeFuncCalls
import Derived.RangeFuncLeaves
import Derived.RangeFuncFrom
import Derived.Shelf.Abstract
import Derived.Shelf.RegionOpen
import Derived.WalkKit
import Derived.OwnWalkIn
import Derived.TacticsInMore
import Derived.LoopNIn
import Derived.LoopIn
import Derived.Test.YtplfpmfnlbfhkaaGreatDoorChecked
namespace Go.Proofs
open Go.RowKit Go.Shelf
attribute [local go_sem] Oper.semAt_some

/-- A sign's place, and it. -/
abbrev Tryz.Sg := { p : Nat × Nat // p.1 < 1152921504606846976 ∧ p.2 < 128 }
abbrev Tryz.sgEnc (p : Tryz.Sg) : Array Value := #[.int .i64 (p.1.1 : Int), .int .i32 (p.1.2 : Int)]
def Tryz.sgAt (z : Nat → Nat) (hz : ∀ k, z k < 128) (k : Nat) : Tryz.Sg := ⟨(k % 1152921504606846976, z k), Nat.mod_lt _ (by decide), hz k⟩
def Tryz.upto (z : Nat → Nat) (hz : ∀ k, z k < 128) (k : Nat) : List Tryz.Sg := (List.range k).map (Tryz.sgAt z hz)
theorem Tryz.upto_succ (z : Nat → Nat) (hz : ∀ k, z k < 128) (k : Nat) : Tryz.upto z hz (k + 1) = Tryz.upto z hz k ++ [Tryz.sgAt z hz k] := by simp [Tryz.upto, List.range_succ]
theorem Tryz.upto_length (z : Nat → Nat) (hz : ∀ k, z k < 128) (k : Nat) : (Tryz.upto z hz k).length = k := by simp [Tryz.upto]
/-- What lay below n₀ lies as it lay, and the cell at Bs. -/
def Tryz.Keep (n₀ Bs : Nat) (A B : World) : Prop := Below n₀ A B ∧ B.cell? ⟨Bs, 0, none⟩ = A.cell? ⟨Bs, 0, none⟩
theorem Tryz.Keep.refl (n₀ Bs : Nat) (A : World) : Tryz.Keep n₀ Bs A A := ⟨Below.refl _ _, rfl⟩
theorem Tryz.Keep.trans {n₀ Bs : Nat} {A B C : World} (h : Tryz.Keep n₀ Bs A B) (k : Tryz.Keep n₀ Bs B C) : Tryz.Keep n₀ Bs A C := ⟨h.1.trans k.1, k.2.trans h.2⟩
theorem cell_new_b (W : World) (v : Value) (t : TypeId) : (W.alloc (.cells #[v] t)).cell? ⟨W.heap.size, 0, none⟩ = some v ∧ (W.alloc (.cells #[v] t)).frozen? ⟨W.heap.size, 0, none⟩ = false := ⟨by simp, by simp⟩
theorem cell_alloc_b {W : World} {a : Addr} {v : Value} (o : Obj) (h : W.cell? a = some v) : (W.alloc o).cell? a = some v := cell_kept h (World.grownBy_alloc W o none) (fun r e => by cases e)
theorem frozen_alloc_b {W : World} {a : Addr} {v : Value} (o : Obj) (h : W.cell? a = some v) (hf : W.frozen? a = false) : (W.alloc o).frozen? a = false := (frozen_kept h (World.grownBy_alloc W o none) (fun r e => by cases e)).trans hf

/-- The place behind the last one. -/
def Tryz.endOf (l : List Tryz.Sg) : Int := match l.getLast? with
  | some p => (p.1.1 : Int) + 1
  | none => 0
theorem Tryz.endOf_snoc (l : List Tryz.Sg) (x : Tryz.Sg) : Tryz.endOf (l ++ [x]) = (x.1.1 : Int) + 1 := by simp [Tryz.endOf]
theorem Tryz.endOf_upto (z : Nat → Nat) (hz : ∀ k, z k < 128) (k : Nat) (hk : k < 1152921504606846976) : Tryz.endOf (Tryz.upto z hz k) = (k : Int) := by
  cases k with
  | zero => rfl
  | succ k =>
    rw [Tryz.upto_succ, Tryz.endOf_snoc]
    simp only [Tryz.sgAt]
    rw [Nat.mod_eq_of_lt (by omega)]
    omega

set_option maxRecDepth 100000 in
set_option maxHeartbeats 2000000 in
theorem Tryz.first_in (F : Fence) (n : Nat) (h : F.fn 226) (hro : F.round = none) (b off len cap : Nat) (c : Nat) (hc : c < 128) (hl : 0 < len) (w : World) (hb : w.cell? ⟨b, off, none⟩ = some (.int .u8 c)) :
    CallsIn F n Tryz.prog 226 #[.slice (some ⟨b, off, none⟩) len cap] w fun e w' => e = .returned (.tuple #[.int .i32 c, .int .i64 1]) ∧ w' = w := by
  refine callsIn_of_wp Tryz.func226 rfl h ?_ hro
  simp only [Tryz.ntmps226, List.size_toArray, List.length_cons, List.length_nil, Nat.reduceAdd, Nat.reduceSub, Array.replicate_succ, Array.replicate_zero, List.push_toArray, List.append_toArray, List.nil_append, List.cons_append]
  have h1 : ¬ ((len : Int) = 0) := by omega
  have h2 : (c : Int) < 128 := by omega
  gi_wp2
  exact ⟨rfl, _, by simp [results, Tryz.f226], rfl, rfl⟩

set_option maxRecDepth 100000 in
set_option maxHeartbeats 2000000 in
theorem Tryz.size_in (F : Fence) (n : Nat) (h : F.fn 190) (hro : F.round = none) (c : Nat) (hc : c < 128) (w : World) :
    CallsIn F n Tryz.prog 190 #[.int .i32 c] w fun e w' => e = .returned (.int .i64 1) ∧ w' = w := by
  refine callsIn_of_wp Tryz.func190 rfl h ?_ hro
  simp only [Tryz.ntmps190, List.size_toArray, List.length_cons, List.length_nil, Nat.reduceAdd, Nat.reduceSub, Array.replicate_succ, Array.replicate_zero, List.push_toArray, List.append_toArray, List.nil_append, List.cons_append]
  have h2 : (c : Int) < 128 := by omega
  gi_wp2
  go_ret
  exact ⟨rfl, rfl⟩

set_option maxRecDepth 100000 in
set_option maxHeartbeats 2000000 in
theorem Tryz.all_in (F : Fence) (n : Nat) (h : F.fn 189) (hro : F.round = none) (a : Option Addr) (len cap : Nat) (w : World) :
    CallsIn F n Tryz.prog 189 #[.slice a len cap] w fun e w' => e = .returned (.func (.func 225) #[] #[.pointer (some ⟨w.heap.size, 0, none⟩)]) ∧ w' = w.alloc (.cells #[.slice a len cap] 71) := by
  refine callsIn_of_wp Tryz.func189 rfl h ?_ hro
  simp only [Tryz.ntmps189, List.size_toArray, List.length_cons, List.length_nil, Nat.reduceAdd, Nat.reduceSub, Array.replicate_succ, Array.replicate_zero, List.push_toArray, List.append_toArray, List.nil_append, List.cons_append]
  gi_wp2
  go_ret
  exact ⟨rfl, rfl⟩

set_option maxRecDepth 100000 in
set_option maxHeartbeats 2000000 in
/-- The closure that runes.All gives, at bytes each below 128. -/
theorem Tryz.all1_in (F : Fence) (n : Nat) (h225 : F.fn 225) (h226 : F.fn 226) (hro : F.round = none) (hn : 1 ≤ n) (l Bs n₀ b off len cap : Nat) (z : Nat → Nat) (hz : ∀ k, z k < 128) (hlen : len ≤ 2147483648) (hlc : len ≤ cap) (hb : len ≠ 0 → b < n₀) (J Jx : List Tryz.Sg → World → Prop)
    (hY : ∀ pre x W, J pre W → pre.length < len → YieldAt F (n - 1) Tryz.prog l (Tryz.sgEnc x) W fun e W' =>
      (e = .returned (.bool true) ∧ J (pre ++ [x]) W' ∧ Tryz.Keep n₀ Bs W W') ∨ (e = .returned (.bool false) ∧ Jx (pre ++ [x]) W'))
    (W : World) (p : Option Addr) (hp : len ≠ 0 → p = some ⟨b, off, none⟩) (hBs : W.cell? ⟨Bs, 0, none⟩ = some (.slice p len cap)) (hc : ∀ j, j < len → W.cell? ⟨b, off + j, none⟩ = some (.int .u8 (z j))) (h0 : J [] W) :
    CallsIn F n Tryz.prog 225 #[.func (.yield l) #[] #[], .pointer (some ⟨Bs, 0, none⟩)] W fun e W' => (∃ v, e = .returned v) ∧
      ((∃ ys, ys = Tryz.upto z hz len ∧ J ys W') ∨ (∃ pre, (∃ k, k ≤ len ∧ pre = Tryz.upto z hz k) ∧ Jx pre W')) := by
  refine callsIn_of_wp Tryz.func225 rfl h225 ?_ hro
  simp only [Tryz.ntmps225, List.size_toArray, List.length_cons, List.length_nil, Nat.reduceAdd, Nat.reduceSub, Array.replicate_succ, Array.replicate_zero, List.push_toArray, List.append_toArray, List.nil_append, List.cons_append]
  gi_wp2
  gi_loopw [3] (fun i wr => ∃ k : Nat, k ≤ len ∧ i = .int .i64 k ∧ J (Tryz.upto z hz k) wr ∧ Tryz.Keep n₀ Bs W wr)
    (fun i _ => len - (intOf i).toNat)
  case atStart => exact ⟨0, Nat.zero_le _, rfl, h0, Tryz.Keep.refl _ _ _⟩
  case round =>
    obtain ⟨k, hk, rfl, hJs, hnx⟩ := hrel
    have hbs := hnx.2.trans hBs
    by_cases hlt : k < len
    · have hne : len ≠ 0 := by omega
      obtain rfl := hp hne
      have hck : ¬ cap = k := by omega
      have hcx : wr.cell? ⟨b, off + k, none⟩ = some (.int .u8 (z k)) := (hnx.1.cell (p := ⟨b, off + k, none⟩) (hb hne)).trans (hc k hlt)
      obtain ⟨fn, tmps, assign, body, hy, hR⟩ := hY _ (Tryz.sgAt z hz k) wr hJs (by rw [Tryz.upto_length]; exact hlt)
      simp only [Tryz.sgEnc, Tryz.sgAt, Nat.mod_eq_of_lt (show k < 1152921504606846976 by omega)] at hy
      gi_wp2_with (gi_at_call 226; refine (Tryz.first_in F (n - 1) h226 hro b (off + k) (len - k) (cap - k) (z k) (hz k) (by omega) wr hcx).mono ?_; rintro e w' ⟨rfl, rfl⟩)
      refine hR.mono ?_
      rintro e W3 (⟨rfl, hJ3, hk3⟩ | ⟨rfl, hJx3⟩)
      · -- the round goes on
        gi_wp2
        go_roundw
        case rel => exact ⟨k + 1, by omega, by simp, by rw [Tryz.upto_succ]; exact hJ3, hnx.trans hk3⟩
        case measure => simp [intOf]; omega
      · gi_wp2
        refine bodyPost_ret (results_none rfl _ _ _) rfl ?_
        exact ⟨⟨_, rfl⟩, .inr ⟨_, ⟨k + 1, by omega, (Tryz.upto_succ _ _ _).symm⟩, hJx3⟩⟩
    · obtain rfl : k = len := by omega
      gi_wp2
      go_end0
      exact ⟨⟨_, rfl⟩, .inl ⟨_, rfl, hJs⟩⟩

set_option maxRecDepth 100000 in
set_option maxHeartbeats 2000000 in
/-- runes.Bad, of bytes each below 128: -1; nothing that lay has turned. -/
theorem Tryz.bad_in (F : Fence) (n : Nat) (h153 : F.fn 153) (h189 : F.fn 189) (h190 : F.fn 190) (h225 : F.fn 225) (h226 : F.fn 226) (hro : F.round = none) (hn : 3 ≤ n) (b off len cap : Nat) (p : Option Addr) (z : Nat → Nat) (hz : ∀ k, z k < 128)
    (hlen : len ≤ 2147483648) (hlc : len ≤ cap) (w : World) (hb : len ≠ 0 → b < w.heap.size) (hp : len ≠ 0 → p = some ⟨b, off, none⟩) (hc : ∀ j, j < len → w.cell? ⟨b, off + j, none⟩ = some (.int .u8 (z j))) :
    CallsIn F n Tryz.prog 153 #[.slice p len cap] w fun e W' => e = .returned (.int .i64 (-1)) ∧ Below w.heap.size w W' := by
  have h1 : 1 ≤ n := by omega
  refine callsIn_of_wp_marks Tryz.func153 rfl h153 ?_ hro
  simp only [Tryz.ntmps153, List.size_toArray, List.length_cons, List.length_nil, Nat.reduceAdd, Nat.reduceSub, Array.replicate_succ, Array.replicate_zero, List.push_toArray, List.append_toArray, List.nil_append, List.cons_append]
  gi_wp2_with (gi_at_call 189; refine (Tryz.all_in F (n - 1) h189 hro _ _ _ _).mono ?_; rintro e w' ⟨rfl, rfl⟩)
  have hs := cell_new_b w (.int .i64 0) 3
  have hb0 := cell_new_b (w.alloc (.cells #[.int .i64 0] 3)) (.slice p len cap) 71
  rw [World.size_alloc] at hb0
  have hB0 : Below w.heap.size w ((w.alloc (.cells #[.int .i64 0] 3)).alloc (.cells #[.slice p len cap] 71)) := ((Below.refl _ w).alloc (Nat.le_refl _) _).alloc (by simp) _
  refine wpIn_rangeFunc_ownF hro h1 (gf := 225) (lb := #[.pointer (some ⟨w.heap.size + 1, 0, none⟩)]) rfl h225 (enters_of Tryz.func225 (by kernel_rfl) rfl)
    (encs := Tryz.sgEnc) (Kp := Tryz.Keep w.heap.size (w.heap.size + 1)) (S := fun ys => ys = Tryz.upto z hz len) (Sp := fun _ => True) (N := len) (w0 := (w.alloc (.cells #[.int .i64 0] 3)).alloc (.cells #[.slice p len cap] 71))
    (fun l J Jx W hW hJ hJx hY h0 => ?seq) Tryz.Keep.trans (fun W l o o' hl hlo hc hw => ⟨belowK_b (w := w) (Nat.le_refl _) W l o o' (by simp at hl; omega) hlo hc hw, (belowK_b (n₀ := w.heap.size + 2) (w := (w.alloc (.cells #[.int .i64 0] 3)).alloc (.cells #[.slice p len cap] 71)) (by simp) W l o o' hl hlo hc hw).cell (p := ⟨w.heap.size + 1, 0, none⟩) (by simp)⟩) (Below.refl _ _) (fun _ => rfl)
    (fun pre W => (W.cell? ⟨w.heap.size, 0, none⟩ = some (.int .i64 (Tryz.endOf pre)) ∧ W.frozen? ⟨w.heap.size, 0, none⟩ = false) ∧ Below w.heap.size w W)
    (fun _ _ _ => False)
    (OwnFrom.and (Own.from (fun s A B row hs hg hr => ⟨cell_kept hs.1 hg hr, (frozen_kept hs.1 hg hr).trans hs.2⟩) _) (ownFrom_below (Nat.le_refl _) (by simp; omega)))
    (fun _ _ _ _ _ hs _ _ => hs)
    ⟨⟨cell_alloc_b _ hs.1, frozen_alloc_b _ hs.1 hs.2⟩, hB0⟩
    (fun x => { tmps := #[.slice p len cap, undef, .int .i64 0, .pointer (some ⟨w.heap.size, 0, none⟩), .int .i64 x.1.1, .int .i32 x.1.2, .slice p len cap, .func (.func 225) #[] #[.pointer (some ⟨w.heap.size + 1, 0, none⟩)], .int .i64 x.1.1, .int .i32 x.1.2, undef, undef, undef, undef, undef, undef, undef, undef, undef], defers := [] }) ?assign ?body ?done ?stop
  case seq =>
    have hbox : W.cell? ⟨w.heap.size + 1, 0, none⟩ = some (.slice p len cap) := (hW.cell (p := ⟨w.heap.size + 1, 0, none⟩) (by simp)).trans hb0.1
    have hcs : ∀ j, j < len → W.cell? ⟨b, off + j, none⟩ = some (.int .u8 (z j)) := fun j hj =>
      (hW.cell (p := ⟨b, off + j, none⟩) (by have := hb (by omega); simp; omega)).trans ((hB0.cell (p := ⟨b, off + j, none⟩) (hb (by omega))).trans (hc j hj))
    refine (Tryz.all1_in F (n - 1) h225 h226 hro (by omega) l (w.heap.size + 1) w.heap.size b off len cap z hz hlen hlc hb J Jx hY W p hp hbox hcs h0).mono ?_
    rintro e W' ⟨he, ⟨ys, rfl, hj⟩ | ⟨pre, -, hj⟩⟩
    · exact ⟨he, .inl ⟨_, rfl, hj⟩⟩
    · exact ⟨he, .inr ⟨_, trivial, hj⟩⟩
  case assign =>
    intro l x W K hK
    gi_wp2
    exact hK
  case body =>
    rintro l pre x W ⟨⟨hc, hf⟩, hB⟩ _
    obtain ⟨⟨at_, r⟩, hat, hr⟩ := x
    simp only at hat hr
    have h2 : 1 ≤ n - 1 - 1 := by omega
    gi_wp2_with (gi_at_call 190; refine (CallsIn.inRound l (Tryz.size_in F (n - 1 - 1 - 1) h190 hro r hr _)).mono ?_; rintro e w' ⟨rfl, hww⟩; subst hww)
    refine ⟨KeepsOthers.setCell _ _ _, ⟨(Below.refl w.heap.size _).setCell (p := ⟨w.heap.size, 0, none⟩) (Nat.le_refl _) _, ?_⟩, ⟨?_, by rw [World.frozen?_setCell]; exact hf⟩, hB.setCell (p := ⟨w.heap.size, 0, none⟩) (Nat.le_refl _) _⟩
    · exact World.cell?_of_block (Below.heap_setCell _ ⟨w.heap.size, 0, none⟩ _ (w.heap.size + 1) (by simp))
    · rw [Tryz.endOf_snoc]
      exact World.cell?_setCell_same' _ _ _ (by rw [hc]; rfl)
  case done =>
    rintro D ys W hD rfl ⟨⟨hc, _⟩, hB⟩ hK
    rw [Tryz.endOf_upto z hz len (by omega)] at hc
    gi_wp2
    refine ⟨by simp, .inl ⟨_, _, rfl, run_takeDeferred hK, ?_⟩⟩
    exact ⟨_, results_tmp rfl _ _ _, rfl, hB.trans (belowK_b (w := w) (Nat.le_refl _) W D _ _ (by simp at hD; omega) hK rfl rfl)⟩
  case stop =>
    rintro D c pre W _ _ h _
    exact h.elim
end Go.Proofs
