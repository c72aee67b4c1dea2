/- Operations, one by one. Fourth part: numbers, strings, conversions. -/
import Derived.Test.YtplfpmfnlbfhkaaGreatDoorAm7
set_option linter.unusedVariables false
set_option linter.unusedSimpArgs false
namespace Go.Am
open Go

section
variable {P : Program} {m m' : MMap} {F F' : FMap} {g : Look} {w w' : World}

theorem intBin_ok {op : BinOp} {k : IntKind} {x y : Int} {r : AV} {t : TypeId} (h : intBin op k x y = some r) (hs : op ≠ .shl ∧ op ≠ .shr) :
    ∃ cv, (binOp op t (.int k x) (.int k y)).run P w = .ok cv w ∧ VRel m F r cv := by
  cases op <;> simp only [intBin] at h
  case shl => exact absurd rfl hs.1
  case shr => exact absurd rfl hs.2
  case quo =>
    split at h
    · cases h
    · rename_i hy; cases h; exact ⟨_, by simp [binOp, Op.intDiv, hy], .int _ _⟩
  case rem =>
    split at h
    · cases h
    · rename_i hy; cases h; exact ⟨_, by simp [binOp, Op.intDiv, hy], .int _ _⟩
  all_goals first
    | (cases h; done)
    | (cases h; exact ⟨_, by simp only [binOp, Op.intArith, Op.intBits, Op.intCmp, ne_eq, not_true_eq_false, if_false]; rfl, .int _ _⟩)
    | (cases h; exact ⟨_, by simp only [binOp, Op.intArith, Op.intBits, Op.intCmp, ne_eq, not_true_eq_false, if_false]; rfl, .bool _⟩)

theorem shift_ok {op : BinOp} {k k' : IntKind} {x y : Int} {r : AV} {t : TypeId} (h : shiftA op k x y = some r) :
    ∃ cv, (binOp op t (.int k x) (.int k' y)).run P w = .ok cv w ∧ VRel m F r cv := by
  unfold shiftA at h
  split at h
  · cases h
  · rename_i hy
    cases op <;> first | (cases h; done) | skip
    all_goals
      cases h
      exact ⟨_, by simp only [binOp, Op.shift, hy, if_false]; rfl, .int _ _⟩

theorem toList_mk (s : List UInt8) : (ByteArray.mk ⟨s⟩).toList = s := by rw [Lib.toList_data]

theorem strBin_ok {op : BinOp} {x y : List UInt8} {r : AV} {t : TypeId} (h : strBin op x y = some r) :
    ∃ cv, (binOp op t (.string ⟨⟨x⟩⟩) (.string ⟨⟨y⟩⟩)).run P w = .ok cv w ∧ VRel m F r cv := by
  cases op <;> simp only [strBin] at h
  case add =>
    split at h
    · rename_i hl
      cases h
      refine ⟨.string ⟨⟨x ++ y⟩⟩, ?_, .str _⟩
      have hx : (ByteArray.mk ⟨x⟩).size = x.length := rfl
      have hy : (ByteArray.mk ⟨y⟩).size = y.length := rfl
      have he : (ByteArray.mk ⟨x⟩ ++ ByteArray.mk ⟨y⟩) = ByteArray.mk ⟨x ++ y⟩ := by
        apply ByteArray.ext; apply Array.ext'; simp
      have hle : ¬ ((x.length + y.length : Nat) : Int) > IntKind.i64.max := by
        have : IntKind.i64.max = 9223372036854775807 := by decide
        unfold strLim at hl; omega
      simp only [binOp, Op.stringOp, hx, hy, he, hle, if_false]
      rfl
    · cases h
  all_goals first
    | (cases h; done)
    | (cases h; exact ⟨_, by simp only [binOp, Op.stringOp, toList_mk]; rfl, .bool _⟩)

theorem equal_eq (t : TypeId) (p q : Value) : Op.equal t p q = Op.equalIn (9999 + 1) t p q := rfl

theorem eqlA_ok {t : TypeId} {x y : AV} {b : Bool} {p q : Value} (hx : VRel m F x p) (hy : VRel m F y q) (h : eqlA P t x y = some b) :
    (Op.equal t p q).run P w = .ok b w ∧ (p = .nilIface → q ≠ .nilIface) ∧ (∀ cs, p ≠ .agg cs) := by
  unfold eqlA at h
  split at h
  all_goals first
    | (cases h; done)
    | (rename_i hu; cases h; cases hx; cases hy; rw [equal_eq, Op.equalIn]; simp [run_underlying hu]; done)

theorem eqGuard_ok {op : BinOp} {t : TypeId} {x y : Operand} {p q : Value} (h : (op = .eql ∨ op = .neq) → (p = .nilIface → q ≠ .nilIface) ∧ (∀ cs, p ≠ .agg cs)) :
    (eqGuard op t x y p q).run P w = .ok () w := by
  by_cases ho : op = .eql ∨ op = .neq
  · obtain ⟨h1, h2⟩ := h ho
    rcases ho with rfl | rfl
    all_goals
      cases p <;> first
        | (exact absurd rfl (h2 _); done)
        | (simp [eqGuard]; done)
        | (cases q <;> first | (exact absurd rfl (h1 rfl); done) | (simp [eqGuard]; done))
  · cases op <;> first
      | (exact absurd (Or.inl rfl) ho; done)
      | (exact absurd (Or.inr rfl) ho; done)
      | (simp [eqGuard]; done)

theorem bin_ok {op : BinOp} {t : TypeId} {x y r : AV} {xo yo : Operand} {p q : Value} (hx : VRel m F x p) (hy : VRel m F y q) (h : binA P op t x y = some r) :
    ∃ cv, (do eqGuard op t xo yo p q; binOp op t p q : Sem Value).run P w = .ok cv w ∧ VRel m F r cv := by
  unfold binA at h
  split at h
  · cases hx; cases hy
    rename_i k a k' b
    have hg : (eqGuard op t xo yo (.int k a) (.int k' b)).run P w = .ok () w := eqGuard_ok fun _ => ⟨by simp, by simp⟩
    simp only [Sem.run_bind, hg, Result.andThen_ok]
    split at h
    · exact shift_ok h
    · exact shift_ok h
    · rename_i h1 h2
      split at h
      · rename_i hk; subst hk; exact intBin_ok h ⟨h1, h2⟩
      · cases h
  · cases hx; cases hy
    rename_i a b
    have hg : (eqGuard op t xo yo (.string ⟨⟨a⟩⟩) (.string ⟨⟨b⟩⟩)).run P w = .ok () w := eqGuard_ok fun _ => ⟨by simp, by simp⟩
    simp only [Sem.run_bind, hg, Result.andThen_ok]
    exact strBin_ok h
  · rename_i h1 h2
    split at h
    · obtain ⟨b, hb, rfl⟩ := map_some' h
      obtain ⟨h3, h4, h5⟩ := eqlA_ok (w := w) hx hy hb
      have hg : (eqGuard .eql t xo yo p q).run P w = .ok () w := eqGuard_ok fun _ => ⟨h4, h5⟩
      refine ⟨.bool b, ?_, .bool _⟩
      simp only [Sem.run_bind, hg, Result.andThen_ok]
      cases hx <;> cases hy <;> first
        | (exact absurd rfl (h1 _ _ _ _ rfl); done)
        | (exact absurd rfl (h2 _ _ rfl); done)
        | (simp only [binOp, Sem.run_bind, h3, Result.andThen_ok, Sem.run_pure]; done)
        | (simp [eqlA] at hb; done)
        | (unfold eqlA at hb; split at hb <;> simp_all; done)
    · obtain ⟨b, hb, rfl⟩ := map_some' h
      obtain ⟨h3, h4, h5⟩ := eqlA_ok (w := w) hx hy hb
      have hg : (eqGuard .neq t xo yo p q).run P w = .ok () w := eqGuard_ok fun _ => ⟨h4, h5⟩
      refine ⟨.bool (!b), ?_, .bool _⟩
      simp only [Sem.run_bind, hg, Result.andThen_ok]
      cases hx <;> cases hy <;> first
        | (exact absurd rfl (h1 _ _ _ _ rfl); done)
        | (exact absurd rfl (h2 _ _ rfl); done)
        | (simp only [binOp, Sem.run_bind, h3, Result.andThen_ok, Sem.run_pure]; done)
        | (simp [eqlA] at hb; done)
        | (unfold eqlA at hb; split at hb <;> simp_all; done)
    · cases h

theorem un_ok {op : UnOp} {x r : AV} {p : Value} (hx : VRel m F x p) (h : unA op x = some r) :
    ∃ cv, (Op.unary op p).run P w = .ok cv w ∧ VRel m F r cv := by
  unfold unA at h
  split at h
  · cases h; cases hx; exact ⟨_, by simp [Op.unary], .bool _⟩
  · cases h; cases hx; exact ⟨_, by simp only [Op.unary, Op.intArith, Int.zero_sub]; rfl, by simp only [Int.zero_sub]; constructor⟩
  · cases hx
    simp only [intBin] at h
    cases h
    exact ⟨_, by simp only [Op.unary, Op.intBits]; rfl, .int _ _⟩
  · cases h

theorem len_ok (hi : Inv m F g w) {x r : AV} {p : Value} {t ty : TypeId} (hx : VRel m F x p) (h : lenA P g t x = some r) :
    ∃ cv, (Builtin.len_ #[t] ty #[p]).run P w = .ok cv w ∧ VRel m F r cv := by
  unfold lenA at h
  split at h
  · rename_i s hu
    cases h; cases hx
    exact ⟨.int .i64 s.length, by simp [Builtin.len_, run_underlying hu, goInt]; rfl, .int _ _⟩
  · rename_i l hu
    cases h
    cases hx with
    | row _ _ a cap b o size vs hex hcap ha hs hF hv => exact ⟨.int .i64 l.length, by simp [Builtin.len_, run_underlying hu, goInt], .int _ _⟩
  · rename_i len hu
    cases h
    cases hx with
    | mrow _ _ _ loc b cap hm hle hc hcur => exact ⟨.int .i64 len, by simp [Builtin.len_, run_underlying hu, goInt], .int _ _⟩
  · rename_i hu
    cases h; cases hx
    exact ⟨.int .i64 0, by simp [Builtin.len_, run_underlying hu, goInt], .int _ _⟩
  · rename_i id hu
    cases hx with
    | map _ loc hm h0 =>
    split at h
    · rename_i es hg
      cases h
      obtain ⟨l1, ces, clock, h1, h2, h3, h4, h5⟩ := hi.objs id _ hg
      rw [hm] at h1; cases h1
      have hl : es.length = ces.size := by have := h4.1; simpa using this
      refine ⟨.int .i64 es.length, ?_, .int _ _⟩
      simp [Builtin.len_, run_underlying hu, goInt, getObj, Sem.run, h3, hl]
    · cases h
  · cases h

theorem minA_ok : ∀ {l : List AV} {x r : AV} {p : Value} {q : List Value}, VRel m F x p → RelL m F l q → minA x l = some r → ∃ cv, (q.foldlM Builtin.min2 p).run P w = .ok cv w ∧ VRel m F r cv
  | [], x, r, p, q, hx, hl, h => by
    rw [hl.nil_left]
    cases x <;> (cases h; exact ⟨p, by simp, hx⟩)
  | y :: ys, x, r, p, q, hx, hl, h => by
    obtain ⟨z, zs, rfl, h1, h2⟩ := hl.cons_left
    cases x with
    | int k a =>
      cases y with
      | int k' b =>
        cases hx; cases h1
        simp only [minA] at h
        obtain ⟨cv, h3, h4⟩ := minA_ok (.int _ _) h2 h
        exact ⟨cv, by simpa [Builtin.min2] using h3, h4⟩
      | _ => simp [minA] at h
    | _ => simp [minA] at h

theorem maxA_ok : ∀ {l : List AV} {x r : AV} {p : Value} {q : List Value}, VRel m F x p → RelL m F l q → maxA x l = some r → ∃ cv, (q.foldlM Builtin.max2 p).run P w = .ok cv w ∧ VRel m F r cv
  | [], x, r, p, q, hx, hl, h => by
    rw [hl.nil_left]
    cases x <;> (cases h; exact ⟨p, by simp, hx⟩)
  | y :: ys, x, r, p, q, hx, hl, h => by
    obtain ⟨z, zs, rfl, h1, h2⟩ := hl.cons_left
    cases x with
    | int k a =>
      cases y with
      | int k' b =>
        cases hx; cases h1
        simp only [maxA] at h
        obtain ⟨cv, h3, h4⟩ := maxA_ok (.int _ _) h2 h
        exact ⟨cv, by simpa [Builtin.max2] using h3, h4⟩
      | _ => simp [maxA] at h
    | _ => simp [maxA] at h
end
end Go.Am
