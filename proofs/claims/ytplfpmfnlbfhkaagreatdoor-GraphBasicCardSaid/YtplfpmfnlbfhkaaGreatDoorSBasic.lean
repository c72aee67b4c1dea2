/- GraphBasic: whatever the number, the call answers true. -/
import Derived.Test.YtplfpmfnlbfhkaaGreatDoorSLives
import Derived.Test.YtplfpmfnlbfhkaaGreatDoorSK0
import Derived.Test.YtplfpmfnlbfhkaaGreatDoorSK1
import Derived.Test.YtplfpmfnlbfhkaaGreatDoorSK2
import Derived.Test.YtplfpmfnlbfhkaaGreatDoorSK3
import Derived.Test.YtplfpmfnlbfhkaaGreatDoorSK4
import Derived.Test.YtplfpmfnlbfhkaaGreatDoorSK5
import Derived.Test.YtplfpmfnlbfhkaaGreatDoorSK6
import Derived.ProofKit
import Derived.Handy
namespace Go.Am
open Go Go.Proofs Go.RowKit

set_option maxRecDepth 100000 in
theorem basic_out (n : Int) (hn : n < 0 ∨ 6 < n) (w : World) : Calls Tryz.prog 41 #[.int .i64 n] w fun e w' => e = .returned (.agg #[.slice none 0 0, .int .i64 0]) ∧ Below w.heap.size w w' := by
  refine calls_of_wp Tryz.func41 rfl ?_
  simp only [Tryz.ntmps41, List.size_toArray, List.length_cons, List.length_nil, Nat.reduceAdd, Nat.reduceSub, Array.replicate_succ, Array.replicate_zero, List.push_toArray, List.append_toArray, List.nil_append, List.cons_append]
  by_cases h : n < 0
  · go_wp2
    refine ⟨rfl, .agg #[.slice none 0 0, .int .i64 0], ?_, rfl, (Below.refl _ _).alloc (Nat.le_refl _) _⟩
    simp [results, Tryz.f41, go_sem]
  · have h6 : 6 < n := by omega
    go_wp2
    refine ⟨rfl, .agg #[.slice none 0 0, .int .i64 0], ?_, rfl, (Below.refl _ _).alloc (Nat.le_refl _) _⟩
    simp [results, Tryz.f41, go_sem]

set_option maxRecDepth 100000 in
theorem check_none : pureCall seatE2 100000 42 [.agg [.row false [], .int .i64 0]] = some (.int .i64 14) := by kernel_rfl

theorem check_calls (w : World) : Calls Tryz.prog 42 #[.agg #[.slice none 0 0, .int .i64 0]] w fun e w' => e = .returned (.int .i64 14) ∧ Below w.heap.size w w' := by
  have hrow : VRel noM noF (.row false []) (.slice none 0 0) := .row false [] none 0 0 0 0 (fun _ _ => Go.undef) (fun h => by cases h) (Nat.le_refl _) (fun h => absurd rfl h) (fun i e h => by simp at h) (fun i e j c h => by simp at h) (fun i e j c h => by simp at h)
  have hx : RelL noM noF [.agg [.row false [], .int .i64 0]] [.agg #[.slice none 0 0, .int .i64 0]] := by
    have h2 : RelL noM noF [.row false [], .int .i64 0] [.slice none 0 0, .int .i64 0] := RelL.cons hrow (RelL.cons (.int .i64 0) RelL.nil)
    exact RelL.cons (.agg _ _ h2.1 h2.2) RelL.nil
  exact (pureCall_calls seat_ok2 (E := seatE2) (fn := Tryz.f42) Tryz.func42 (by kernel_rfl) (by kernel_rfl) check_none (by kernel_rfl) (F := noF) (fun _ _ _ h => by cases h) hx).mono
    fun e w' ⟨cv, F', h1, h2, h3⟩ => by cases h2; exact ⟨h1, h3⟩

set_option maxRecDepth 100000 in
set_option maxHeartbeats 2000000 in
theorem law_out (n : Int) (hn : n < 0 ∨ 6 < n) (w : World) : Calls Tryz.prog 7 #[.int .i64 n] w fun e w' => e = .returned (.bool true) ∧ Below w.heap.size w w' := by
  refine calls_of_wp Tryz.func7 rfl ?_
  simp only [Tryz.ntmps7, List.size_toArray, List.length_cons, List.length_nil, Nat.reduceAdd, Nat.reduceSub, Array.replicate_succ, Array.replicate_zero, List.push_toArray, List.append_toArray, List.nil_append, List.cons_append]
  by_cases h : n < 0
  · go_wp2_with (first | (go_at_call 38; refine (lives_calls _).mono ?_; rintro e w1 ⟨rfl, hb1⟩) | (go_at_call 41; refine (basic_out n hn _).mono ?_; rintro e w2 ⟨rfl, hb2⟩) | (go_at_call 42; refine (check_calls _).mono ?_; rintro e w3 ⟨rfl, hb3⟩))
    go_ret
    have h12 : w.heap.size ≤ w2.heap.size := Nat.le_trans hb1.size hb2.size
    have hX : Below w.heap.size w2 ((w2.alloc (.cells #[.slice none 0 0, .int .i64 0] 24))) := (Below.refl _ _).alloc h12 _
    exact ⟨rfl, (hb1.trans (hb2.mono hb1.size)).trans (hX.trans (hb3.mono (by simp; omega)))⟩
  · have h6 : 6 < n := by omega
    go_wp2_with (first | (go_at_call 38; refine (lives_calls _).mono ?_; rintro e w1 ⟨rfl, hb1⟩) | (go_at_call 41; refine (basic_out n hn _).mono ?_; rintro e w2 ⟨rfl, hb2⟩) | (go_at_call 42; refine (check_calls _).mono ?_; rintro e w3 ⟨rfl, hb3⟩))
    go_ret
    have h12 : w.heap.size ≤ w2.heap.size := Nat.le_trans hb1.size hb2.size
    have hX : Below w.heap.size w2 ((w2.alloc (.cells #[.slice none 0 0, .int .i64 0] 24))) := (Below.refl _ _).alloc h12 _
    exact ⟨rfl, (hb1.trans (hb2.mono hb1.size)).trans (hX.trans (hb3.mono (by simp; omega)))⟩
theorem law_at (n : Int) (h : pureCall seatE2 100000 7 [.int .i64 n] = some (.bool true)) (w : World) : Calls Tryz.prog 7 #[.int .i64 n] w fun e w' => e = .returned (.bool true) ∧ Below w.heap.size w w' :=
  closed_bool seat_ok2 (E := seatE2) Tryz.func7 (by kernel_rfl) (by kernel_rfl) h rfl (RelL.cons (.int .i64 n) RelL.nil)

theorem law_any (n : Int) (w : World) : Calls Tryz.prog 7 #[.int .i64 n] w fun e w' => e = .returned (.bool true) ∧ Below w.heap.size w w' := by
  by_cases h : n < 0 ∨ 6 < n
  · exact law_out n h w
  · have hn : n = 0 ∨ n = 1 ∨ n = 2 ∨ n = 3 ∨ n = 4 ∨ n = 5 ∨ n = 6 := by omega
    rcases hn with rfl | rfl | rfl | rfl | rfl | rfl | rfl
    · exact law_at 0 basic0 w
    · exact law_at 1 basic1 w
    · exact law_at 2 basic2 w
    · exact law_at 3 basic3 w
    · exact law_at 4 basic4 w
    · exact law_at 5 basic5 w
    · exact law_at 6 basic6 w
end Go.Am
