/- The evaluator's environment at this seat. -/
import Derived.Test.YtplfpmfnlbfhkaaGreatDoorAm26
import Derived.Test.YtplfpmfnlbfhkaaGreatDoorSBad
namespace Go.Am
open Go Go.Proofs Go.RowKit

theorem below_inv {m : MMap} {F : FMap} {g : Look} {w w' : World} (hi : Inv m F g w) (hb : Below w.heap.size w w') : Inv m F g w' ∧ Ext m F w m F w' := by
  refine ⟨⟨fun id o ho => (hi.objs id o ho).keep Grow.refl rfl fun loc hl => ⟨hb.block _ (hi.dom id loc hl), fun j hj => hj⟩, hi.inj, fun id loc hl => Nat.lt_of_lt_of_le (hi.dom id loc hl) hb.size, hi.live, fun b j v hf => ?_⟩,
    ⟨Grow.refl, fun b j v hf => .inl hf, fun id loc hl => .inr ⟨loc, hl, rfl⟩, hb.size, fun b hlt _ => hb.block b hlt, hb.os, hb.tape, hb.output⟩⟩
  exact (hb.cell (p := ⟨b, j, none⟩) (hi.fblock hf)).trans (hi.froz b j v hf)

theorem ascii_get {l : List AV} (h : l.all asciiA = true) {k : Nat} {e : AV} (he : l[k]? = some e) : ∃ c : Nat, c < 128 ∧ e = .int .u8 c := by
  have := List.all_eq_true.1 h e (List.mem_of_getElem? he)
  unfold asciiA at this
  split at this
  · rename_i n
    simp only [Bool.and_eq_true, decide_eq_true_eq] at this
    exact ⟨n.toNat, by omega, by rw [Int.toNat_of_nonneg this.1]⟩
  · cases this

def byteAt (l : List AV) (k : Nat) : Nat := match l[k]? with
  | some (.int .u8 n) => n.toNat
  | _ => 0
theorem byteAt_lt {l : List AV} (h : l.all asciiA = true) (k : Nat) : byteAt l k < 128 := by
  unfold byteAt
  cases he : l[k]? with
  | none => simp
  | some e => obtain ⟨c, hc, rfl⟩ := ascii_get h he; simpa using hc

theorem bad_ok : IntrOk Tryz.prog 153 iBad := by
  intro m F g w nid args x v u hi hm hx h
  unfold iBad at h
  split at h
  · rename_i ex l
    split at h
    · rename_i hchk
      simp only [Bool.and_eq_true, decide_eq_true_eq] at hchk
      obtain ⟨hall, hlim⟩ := hchk
      cases h
      obtain ⟨xs⟩ := x
      obtain ⟨y, ys, rfl, h1, h2⟩ := hx.cons_left
      have := h2.nil_left; subst this
      cases h1 with
      | row _ _ a cap b o size vs hex hcap ha hs hF hv =>
        have hcell : ∀ j, j < l.length → w.cell? ⟨b, o + j, none⟩ = some (.int .u8 (byteAt l j)) := fun j hj => by
          obtain ⟨c, hc, he⟩ := ascii_get hall (List.getElem?_eq_getElem hj)
          have he' : l[j]? = some (.int .u8 (c : Int)) := by rw [List.getElem?_eq_getElem hj, he]
          have h1 : size = 1 := (hs j _ he').symm
          have h3 := hF j _ 0 _ he' rfl
          have h4 := hv j _ 0 _ he' rfl
          have h5 : byteAt l j = c := by simp [byteAt, he']
          rw [h1, Nat.mul_one, Nat.add_zero] at h3
          generalize vs j 0 = y at h3 h4
          cases h4
          rw [h5]
          exact hi.froz _ _ _ h3
        have hbad := callsIn_wide.1 (Tryz.bad_in Fence.wide 3 trivial trivial trivial trivial trivial rfl (Nat.le_refl _) b o l.length cap a (byteAt l) (byteAt_lt hall) hlim hcap w
          (fun hne => by
            have := hcell 0 (by omega)
            rcases Nat.lt_or_ge b w.heap.size with h6 | h6
            · exact h6
            · simp only [World.cell?, Array.getElem?_eq_none h6] at this; cases this)
          (fun hne => ha (fun e => hne (by rw [e]; rfl))) hcell)
        refine .inl ⟨?_, hbad.mono fun e w' ⟨he, hb⟩ => ⟨_, he, m, F, .int _ _, below_inv hi hb⟩⟩
        have h2 : Tryz.f153.name ≠ "runtime.NumGoroutine" := by
          have : (Tryz.f153.name == "runtime.NumGoroutine") = false := by kernel_rfl
          simpa using this
        have h3 : ¬ Tryz.f153.body = none := by
          have : Tryz.f153.body.isNone = false := by kernel_rfl
          intro e; rw [e] at this; cases this
        simp [callFunc, Tryz.func153, h2, h3]
    · cases h
  · cases h

noncomputable def seatE : Env :=
  { P := Tryz.prog
    I := fun f => if f == 65 then some (iClone 1) else if f == 83 then some (iClone 1) else if f == 201 then some (iClone 3) else if f == 238 then some iIndexByte else if f == 153 then some iBad else none
    fa := fun f => !(f == 113 || f == 86 || f == 72 || f == 91 || f == 111 || f == 90)
    fr := fun f => !(f == 86 || f == 72 || f == 91 || f == 111 || f == 57)
    dn := fun f => f == 119 }

theorem seat_names : Tryz.prog.funcs.all (fun fn => fn.body.isNone || !(fn.name == "runtime.NumGoroutine")) = true := by kernel_rfl

theorem seat_name (f : FuncId) (fn : Func) (hf : Tryz.prog.funcs[f]? = some fn) (hb : fn.body.isSome = true) : (fn.name == "runtime.NumGoroutine") = false := by
  have := Array.all_eq_true_iff_forall_mem.1 seat_names fn (Array.mem_of_getElem? hf)
  cases h : fn.body with
  | none => rw [h] at hb; cases hb
  | some c => rw [h] at this; simpa using this

theorem clone65 : IntrOk Tryz.prog 65 (iClone 1) :=
  clone_ok Tryz.func65 (by kernel_rfl) (T := 36) ⟨⟨_, _, _, _, _, _, _, _, _, _, _, _, rfl, rfl, rfl, rfl, rfl, rfl, rfl, rfl, rfl⟩, rfl, rfl⟩ (cloneTy_of (by kernel_rfl))
theorem clone83 : IntrOk Tryz.prog 83 (iClone 1) :=
  clone_ok Tryz.func83 (by kernel_rfl) (T := 35) ⟨⟨_, _, _, _, _, _, _, _, _, _, _, _, rfl, rfl, rfl, rfl, rfl, rfl, rfl, rfl, rfl⟩, rfl, rfl⟩ (cloneTy_of (by kernel_rfl))
theorem clone201 : IntrOk Tryz.prog 201 (iClone 3) :=
  clone_ok Tryz.func201 (by kernel_rfl) (T := 132) ⟨⟨_, _, _, _, _, _, _, _, _, _, _, _, rfl, rfl, rfl, rfl, rfl, rfl, rfl, rfl, rfl⟩, rfl, rfl⟩ (cloneTy_of (by kernel_rfl))
theorem index238 : IntrOk Tryz.prog 238 iIndexByte :=
  indexByte_ok Tryz.func238 (by kernel_rfl) (by kernel_rfl) (by kernel_rfl) rfl
set_option maxRecDepth 100000 in
theorem rec119 (x : Array Value) (w : World) : (callFunc 119 x).run Tryz.prog w = .ok (.enter 119 x) w ∧
    CallsD Tryz.prog 119 x .returning w fun e u' w' => u' = .returning ∧ (∃ v, e = .returned v) ∧ w' = w :=
  recover_ok Tryz.func119 (by kernel_rfl) (T := 20) ⟨⟨_, _, _, _, _, _, _, rfl, rfl, rfl, rfl, rfl⟩, rfl, by decide⟩ Tryz.underlying20 x w

theorem seat_ok : EnvOk seatE := by
  refine ⟨seat_name, by kernel_rfl, fun f i hf => ?_, fun f i hf => ?_, fun f hf x w => ?_⟩
  · simp only [seatE] at hf
    split at hf
    · rename_i h; cases hf; rw [show f = 65 by simpa using h]; exact clone65
    split at hf
    · rename_i h; cases hf; rw [show f = 83 by simpa using h]; exact clone83
    split at hf
    · rename_i h; cases hf; rw [show f = 201 by simpa using h]; exact clone201
    split at hf
    · rename_i h; cases hf; rw [show f = 238 by simpa using h]; exact index238
    split at hf
    · rename_i h; cases hf; rw [show f = 153 by simpa using h]; exact bad_ok
    · cases hf
  · simp only [seatE] at hf
    intro nid args g g' h
    split at hf
    · cases hf; exact clone_frame h
    split at hf
    · cases hf; exact clone_frame h
    split at hf
    · cases hf; exact clone_frame h
    split at hf
    · cases hf; rfl
    split at hf
    · cases hf; rfl
    · cases hf
  · have : f = 119 := by simpa [seatE] using hf
    subst this
    exact rec119 x w
end Go.Am
