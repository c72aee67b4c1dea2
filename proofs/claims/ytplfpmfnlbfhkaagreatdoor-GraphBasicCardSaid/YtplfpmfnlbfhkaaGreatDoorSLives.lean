/- The chapter's example, by the kernel; and the environment in which it is told. -/
import Derived.Test.YtplfpmfnlbfhkaaGreatDoorSEnv
namespace Go.Am
open Go Go.Proofs Go.RowKit

/-- The evaluator's word at a closed call. -/
theorem pureCall_calls {E : Env} (hE : EnvOk E) {n : Nat} {k : FuncId} {fn : Func} (hf : E.P.funcs[k]? = some fn) (hb : fn.body.isSome = true) (hI : E.I k = none) {args : List AV} {v : AV}
    (hc : pureCall E n k args = some v) (hn : nfL args = true) {F : FMap} {w : World} (hF : ∀ b j y, F b j = some y → w.cell? ⟨b, j, none⟩ = some y)
    {x : Array Value} (hx : RelL noM F args x.toList) :
    Calls E.P k x w fun e w' => ∃ cv F', e = .returned cv ∧ VRel noM F' v cv ∧ Below w.heap.size w w' := by
  unfold pureCall at hc
  split at hc
  · rename_i v' h' hg
    split at hc
    · rename_i hvn
      cases hc
      exact (pure_calls hE hf hb hI hg hn hvn hF hx).mono fun e w' ⟨cv, F', h1, h2, _, h4⟩ => ⟨cv, F', h1, h2, h4⟩
    · cases hc
  · cases hc

def noF : FMap := fun _ _ => none

/-- A closed call that answers a Bool. -/
theorem closed_bool {E : Env} (hE : EnvOk E) {n : Nat} {k : FuncId} {fn : Func} (hf : E.P.funcs[k]? = some fn) (hb : fn.body.isSome = true) (hI : E.I k = none) {args : List AV} {b : Bool}
    (hc : pureCall E n k args = some (.bool b)) (hn : nfL args = true) {w : World} {x : Array Value} (hx : RelL noM noF args x.toList) :
    Calls E.P k x w fun e w' => e = .returned (.bool b) ∧ Below w.heap.size w w' :=
  (pureCall_calls hE hf hb hI hc hn (F := noF) (fun _ _ _ h => by cases h) hx).mono fun e w' ⟨cv, F', h1, h2, h3⟩ => by cases h2; exact ⟨h1, h3⟩

set_option maxRecDepth 100000 in
theorem lives8 : pureCall seatE 100000 38 [] = some (.bool true) := by kernel_rfl

theorem lives_calls (w : World) : Calls Tryz.prog 38 #[] w fun e w' => e = .returned (.bool true) ∧ Below w.heap.size w w' :=
  closed_bool seat_ok (E := seatE) Tryz.func38 (by kernel_rfl) (by kernel_rfl) lives8 (by kernel_rfl) RelL.nil

/-- 'lives' answers true. -/
def iLives (_ : Nat) (args : List AV) (_ : Look) : Option (AV × Ups) :=
  match args with
  | [] => some (.bool true, [])
  | _ => none

noncomputable def seatE2 : Env := { seatE with I := fun f => if f == 38 then some iLives else seatE.I f }

theorem callFunc_body {f : FuncId} {fn : Func} (hf : Tryz.prog.funcs[f]? = some fn) (hb : fn.body.isSome = true) (x : Array Value) (w : World) : (callFunc f x).run Tryz.prog w = .ok (.enter f x) w :=
  callFunc_enter seat_ok hf hb x w

theorem seat_ok2 : EnvOk seatE2 := by
  refine ⟨seat_name, seat_ok.mixed, fun f i hf => ?_, fun f i hf => ?_, seat_ok.dn⟩
  · simp only [seatE2] at hf
    split at hf
    · rename_i h
      cases hf
      rw [show f = 38 by simpa using h]
      intro m F g w nid args x v u hi hm hx h
      unfold iLives at h
      split at h
      · cases h
        have hx0 : x = #[] := by obtain ⟨xs⟩ := x; rw [show xs = [] from hx.nil_left]
        subst hx0
        exact .inl ⟨callFunc_body Tryz.func38 (by kernel_rfl) _ _, (lives_calls w).mono fun e w' ⟨he, hb⟩ => ⟨_, he, m, F, .bool true, below_inv hi hb⟩⟩
      · cases h
    · exact seat_ok.intr f i hf
  · simp only [seatE2] at hf
    split at hf
    · cases hf; exact fun nid args g g' h => rfl
    · exact seat_ok.ifr f i hf

end Go.Am
