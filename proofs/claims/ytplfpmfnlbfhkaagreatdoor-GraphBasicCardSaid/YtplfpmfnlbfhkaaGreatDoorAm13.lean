/- Operations, one by one. Ninth part: maps. -/
import Derived.Test.YtplfpmfnlbfhkaaGreatDoorAm12
set_option linter.unusedVariables false
set_option linter.unusedSimpArgs false
namespace Go.Am
open Go

section
variable {P : Program} {m m' : MMap} {F F' : FMap} {g : Look} {w w' : World}

theorem keyCell_und {t : TypeId} {v : AV} (h : keyCell P t v = true) : tyAgg P t = some false ∧ ∀ {x : Value}, VRel m F v x → ∀ (b : Bool) (n : Nat), (Instr.checkKey b (n + 1) t x).run P w = .ok () w := by
  unfold keyCell at h
  split at h
  all_goals first
    | (cases h; done)
    | (rename_i hu
       refine ⟨by simp [tyAgg, hu], fun hx b n => ?_⟩
       cases hx
       rw [Instr.checkKey]
       simp [run_underlying hu])

theorem checkFields (b : Bool) (n : Nat) (xs : List Value) : ∀ (fs : List Field) (cs : List AV) (i : Nat), keyCells P i fs cs = true → (∀ (j : Nat) c, cs[j]? = some c → ∃ v, xs[i + j]? = some v ∧ VRel m F c v) →
    (forIn fs PUnit.unit fun f _ => (if f.name ≠ "_" then do
        let x ← part f.type xs.toArray f.offset
        Instr.checkKey b (n + 1) f.type x
        pure (ForInStep.yield PUnit.unit)
      else pure (ForInStep.yield PUnit.unit) : Sem (ForInStep PUnit))).run P w = .ok () w
  | [], cs, i, _, _ => by simp
  | f :: fs, [], i, h, _ => by cases h
  | f :: fs, c :: cs, i, h, hc => by
    simp only [keyCells, Bool.and_eq_true] at h
    obtain ⟨⟨⟨h1, h2⟩, h3⟩, h4⟩ := h
    have hoff : f.offset = i := by simpa using h2
    have hnm : f.name ≠ "_" := by simpa using h1
    obtain ⟨ha, hck⟩ := keyCell_und (m := m) (F := F) (w := w) h3
    obtain ⟨v, hv, hr⟩ := hc 0 c rfl
    have hpart : (part f.type xs.toArray f.offset).run P w = .ok v w := by
      rw [Nat.add_zero] at hv
      simp [part, tyAgg_run ha, hoff, hv]
    have ih := checkFields b n xs fs cs (i + 1) h4 (fun j d hd => by
      have := hc (j + 1) d (by simpa using hd)
      rw [show i + 1 + j = i + (j + 1) by omega]; exact this)
    rw [List.forIn_cons]
    simp only [if_pos hnm, Sem.run_bind, hpart, hck hr b n, Result.andThen_ok, Sem.run_pure]
    exact ih

theorem keyOk_check {t : TypeId} {v : AV} {x : Value} (h : keyOk P t v = true) (hx : VRel m F v x) (b : Bool) : (Instr.checkKey b 10000 t x).run P w = .ok () w := by
  show (Instr.checkKey b (9999 + 1) t x).run P w = _
  unfold keyOk at h
  split at h
  · rename_i fields cs hu
    cases hx with
    | agg _ xs hl hr =>
    simp only [Bool.and_eq_true] at h
    have hc : ∀ (j : Nat) c, cs[j]? = some c → ∃ v, xs[0 + j]? = some v ∧ VRel m F c v := fun j c hc => by
      rw [Nat.zero_add]; exact RelL.get ⟨hl, hr⟩ hc
    have := checkFields (P := P) (w := w) b 9998 xs fields.toList cs 0 h.1 hc
    rw [Instr.checkKey]
    simp only [Sem.run_bind, run_underlying hu, Result.andThen_ok]
    rw [← Array.forIn_toList]
    rw [this]
    rfl
  all_goals first
    | (cases h; done)
    | (rename_i hu; cases hx; rw [Instr.checkKey]; simp [run_underlying hu])

theorem keyCell_int {t : TypeId} {k : IntKind} {n : Int} (h : keyCell P t (.int k n) = true) : ∃ k', P.underlying t = some (.int k') := by
  unfold keyCell at h
  cases hu : P.underlying t with
  | none => rw [hu] at h; cases h
  | some d => rw [hu] at h; cases d <;> first | (cases h; done) | exact ⟨_, rfl⟩
theorem keyCell_str {t : TypeId} {s : List UInt8} (h : keyCell P t (.str s) = true) : P.underlying t = some .string := by
  unfold keyCell at h
  cases hu : P.underlying t with
  | none => rw [hu] at h; cases h
  | some d => rw [hu] at h; cases d <;> first | (cases h; done) | rfl
theorem keyCell_bool {t : TypeId} {b : Bool} (h : keyCell P t (.bool b) = true) : P.underlying t = some .bool := by
  unfold keyCell at h
  cases hu : P.underlying t with
  | none => rw [hu] at h; cases h
  | some d => rw [hu] at h; cases d <;> first | (cases h; done) | rfl

theorem bytes_beq (x y : List UInt8) : (ByteArray.mk ⟨x⟩ == ByteArray.mk ⟨y⟩) = (x == y) := by
  show ((⟨x⟩ : Array UInt8) == ⟨y⟩) = (x == y)
  simp

theorem keyEq1_same {a b : AV} {x y : Value} {r : Bool} (ha : VRel m F a x) (hb : VRel m F b y) (h : keyEq1 a b = some r) {t : TypeId} (hk : keyCell P t a = true) (n : Nat) :
    (Op.equalIn (n + 1) t x y).run P w = .ok r w := by
  unfold keyEq1 at h
  split at h
  · split at h
    · rename_i hkk
      subst hkk
      cases h; cases ha; cases hb
      obtain ⟨k', hu⟩ := keyCell_int hk
      rw [Op.equalIn]; simp [run_underlying hu]
    · cases h
  · cases h; cases ha; cases hb
    have hu := keyCell_str hk
    rw [Op.equalIn]
    simp only [Sem.run_bind, run_underlying hu, Result.andThen_ok, Sem.run_pure, bytes_beq]
  · cases h; cases ha; cases hb
    have hu := keyCell_bool hk
    rw [Op.equalIn]; simp [run_underlying hu]
  · cases h

theorem equalFields (n : Nat) (xs ys : List Value) : ∀ (fs : List Field) (cs ds : List AV) (i : Nat) (r : Bool), keyCells P i fs cs = true → keyEqs cs ds = some r →
    (∀ (j : Nat) c, cs[j]? = some c → ∃ v, xs[i + j]? = some v ∧ VRel m F c v) → (∀ (j : Nat) c, ds[j]? = some c → ∃ v, ys[i + j]? = some v ∧ VRel m F c v) →
    (forIn fs ((none : Option Bool), ()) fun f s => (if f.name ≠ "_" then do
        let a ← part f.type xs.toArray f.offset
        let b ← part f.type ys.toArray f.offset
        let q ← Op.equalIn (n + 1) f.type a b
        if (!q) = true then pure (ForInStep.done (some false, ())) else pure (ForInStep.yield (none, ()))
      else pure (ForInStep.yield (none, ())) : Sem (ForInStep (Option Bool × Unit)))).run P w = .ok (if r then none else some false, ()) w
  | [], [], [], i, r, _, h, _, _ => by cases h; simp
  | [], [], d :: ds, i, r, _, h, _, _ => by cases h
  | [], c :: cs, ds, i, r, h, _, _, _ => by cases h
  | f :: fs, [], ds, i, r, h, _, _, _ => by cases h
  | f :: fs, c :: cs, [], i, r, _, h, _, _ => by cases h
  | f :: fs, c :: cs, d :: ds, i, r, h, he, hc, hd => by
    simp only [keyCells, Bool.and_eq_true] at h
    obtain ⟨⟨⟨h1, h2⟩, h3⟩, h4⟩ := h
    have hoff : f.offset = i := by simpa using h2
    have hnm : f.name ≠ "_" := by simpa using h1
    obtain ⟨hag, -⟩ := keyCell_und (m := m) (F := F) (w := w) h3
    obtain ⟨v, hv, hrv⟩ := hc 0 c rfl
    obtain ⟨u, hu, hru⟩ := hd 0 d rfl
    rw [Nat.add_zero] at hv hu
    have hp1 : (part f.type xs.toArray f.offset).run P w = .ok v w := by simp [part, tyAgg_run hag, hoff, hv]
    have hp2 : (part f.type ys.toArray f.offset).run P w = .ok u w := by simp [part, tyAgg_run hag, hoff, hu]
    simp only [keyEqs] at he
    cases ha : keyEq1 c d with
    | none => rw [ha] at he; cases he
    | some q =>
      rw [ha] at he
      cases hb : keyEqs cs ds with
      | none => rw [hb] at he; cases he
      | some q2 =>
        rw [hb] at he
        cases he
        have heq := keyEq1_same (w := w) hrv hru ha h3 n
        rw [List.forIn_cons]
        simp only [if_pos hnm, Sem.run_bind, hp1, hp2, heq, Result.andThen_ok, Sem.run_pure]
        cases q with
        | false => simp
        | true =>
          have ih := equalFields n xs ys fs cs ds (i + 1) q2 h4 hb
            (fun j e hj => by have := hc (j + 1) e (by simpa using hj); rw [show i + 1 + j = i + (j + 1) by omega]; exact this)
            (fun j e hj => by have := hd (j + 1) e (by simpa using hj); rw [show i + 1 + j = i + (j + 1) by omega]; exact this)
          simp only [Bool.not_true, Bool.false_eq_true, if_false, Sem.run_pure, Result.andThen_ok, Bool.true_and]
          exact ih

theorem keyEq_struct {t : TypeId} {cs ds : List AV} {fields : Array Field} {r : Bool} {xs ys : List Value} (hu : P.underlying t = some (.struct fields)) (hk : keyCells P 0 fields.toList cs = true)
    (hst : P.stoodInHeld t = false) (h : keyEqs cs ds = some r) (hx : RelL m F cs xs) (hy : RelL m F ds ys) : (Op.equal t (.agg ⟨xs⟩) (.agg ⟨ys⟩)).run P w = .ok r w := by
  rw [equal_eq, Op.equalIn]
  have := equalFields (P := P) (w := w) (m := m) (F := F) 9998 xs ys fields.toList cs ds 0 r hk h (fun j c hc => by rw [Nat.zero_add]; exact hx.get hc) (fun j c hc => by rw [Nat.zero_add]; exact hy.get hc)
  simp only [Sem.run_bind, run_underlying hu, Result.andThen_ok]
  have hprog : (program).run P w = .ok P w := rfl
  rw [hprog]
  simp only [Result.andThen_ok, hst, Bool.false_eq_true, if_false, Sem.run_bind]
  rw [← Array.forIn_toList, this]
  cases r <;> rfl

/-- Entries: what they stand for. -/
def EntRel (m : MMap) (F : FMap) (es : List (AV × AV)) (cs : List MapEntry) : Prop :=
  RelL m F (es.map (·.1)) (cs.map (·.key)) ∧ RelL m F (es.map (·.2)) (cs.map (·.val))

theorem EntRel.cons_left {e : AV × AV} {es : List (AV × AV)} {cs : List MapEntry} (h : EntRel m F (e :: es) cs) :
    ∃ c cs', cs = c :: cs' ∧ VRel m F e.1 c.key ∧ VRel m F e.2 c.val ∧ EntRel m F es cs' := by
  cases cs with
  | nil => exact absurd h.1.1 (by simp)
  | cons c cs => exact ⟨c, cs, rfl, h.1.head, h.2.head, h.1.tail, h.2.tail⟩

def FindRel (m : MMap) (F : FMap) : Option (Nat × AV) → Option (Nat × Value) → Prop
  | none, none => True
  | some (i, v), some (j, x) => i = j ∧ VRel m F v x
  | _, _ => False

theorem find_simple {d : TypeDesc} {k : AV} {x : Value} (hk : VRel m F k x)
    (hd : (∃ q a n, d = .int q ∧ k = .int a n) ∨ (∃ s, d = .string ∧ k = .str s) ∨ (∃ b, d = .bool ∧ k = .bool b)) :
    ∀ {es : List (AV × AV)} {cs : List MapEntry} {i : Nat} {r : Option (Nat × AV)}, EntRel m F es cs → findA k es i = some r → ∃ r', Instr.findNow d x cs i = some r' ∧ FindRel m F r r'
  | [], cs, i, r, he, h => by
    have : cs = [] := List.eq_nil_of_length_eq_zero (by have := he.1.1; simpa using this.symm)
    subst this
    cases h
    exact ⟨none, rfl, trivial⟩
  | (k', v) :: es, cs, i, r, he, h => by
    obtain ⟨c, cs', rfl, h1, h2, h3⟩ := he.cons_left
    simp only [findA] at h
    cases hq : keyEq k k' with
    | none => rw [hq] at h; cases h
    | some q =>
      rw [hq] at h
      have hs : Instr.sameNow d x c.key = some q := by
        generalize hck : c.key = ck at h1 ⊢
        rcases hd with ⟨a, b, n, rfl, rfl⟩ | ⟨s, rfl, rfl⟩ | ⟨b, rfl, rfl⟩
        · cases hk
          simp only [keyEq, keyEq1] at hq
          cases h1 <;> first | (cases hq; done) | skip
          simp only at hq
          split at hq
          · rename_i hkk; subst hkk; cases hq; simp [Instr.sameNow]
          · cases hq
        · cases hk
          simp only [keyEq, keyEq1] at hq
          cases h1 <;> first | (cases hq; done) | skip
          cases hq
          simp only [Instr.sameNow, bytes_beq]
        · cases hk
          simp only [keyEq, keyEq1] at hq
          cases h1 <;> first | (cases hq; done) | skip
          cases hq
          simp [Instr.sameNow]
      cases q with
      | true =>
        simp only at h
        cases h
        exact ⟨some (i, c.val), by simp [Instr.findNow, hs], rfl, h2⟩
      | false =>
        simp only at h
        obtain ⟨r', h4, h5⟩ := find_simple hk hd h3 h
        exact ⟨r', by simp [Instr.findNow, hs, h4], h5⟩

theorem find_struct {t : TypeId} {cs : List AV} {fields : Array Field} {xs : List Value} (hu : P.underlying t = some (.struct fields)) (hk : keyCells P 0 fields.toList cs = true)
    (hst : P.stoodInHeld t = false) (hx : RelL m F cs xs) :
    ∀ {es : List (AV × AV)} {ents : List MapEntry} {i : Nat} {r : Option (Nat × AV)}, EntRel m F es ents → findA (.agg cs) es i = some r →
      ∃ r', (Instr.findAsking t (.agg ⟨xs⟩) ents i).run P w = .ok r' w ∧ FindRel m F r r'
  | [], ents, i, r, he, h => by
    have : ents = [] := List.eq_nil_of_length_eq_zero (by have := he.1.1; simpa using this.symm)
    subst this
    cases h
    exact ⟨none, rfl, trivial⟩
  | (k', v) :: es, ents, i, r, he, h => by
    obtain ⟨c, ents', rfl, h1, h2, h3⟩ := he.cons_left
    simp only [findA] at h
    cases hq : keyEq (.agg cs) k' with
    | none => rw [hq] at h; cases h
    | some q =>
      rw [hq] at h
      have hs : (Op.equal t (.agg ⟨xs⟩) c.key).run P w = .ok q w := by
        generalize hck : c.key = ck at h1 ⊢
        cases h1 <;> first | (simp [keyEq, keyEq1] at hq; done) | skip
        rename_i ds ys hl hr
        simp only [keyEq] at hq
        exact keyEq_struct hu hk hst hq hx ⟨hl, hr⟩
      cases q with
      | true =>
        simp only at h
        cases h
        exact ⟨some (i, c.val), by simp only [Instr.findAsking, Sem.run_bind, hs, Result.andThen_ok, if_true, Sem.run_pure], rfl, h2⟩
      | false =>
        simp only at h
        obtain ⟨r', h4, h5⟩ := find_struct hu hk hst hx h3 h
        exact ⟨r', by simp only [Instr.findAsking, Sem.run_bind, hs, Result.andThen_ok, Bool.false_eq_true, if_false, h4], h5⟩

theorem find_ok {t : TypeId} {k : AV} {x : Value} (hk : keyOk P t k = true) (hx : VRel m F k x) {es : List (AV × AV)} {cs : List MapEntry} {r : Option (Nat × AV)} (he : EntRel m F es cs)
    (h : findA k es 0 = some r) : ∃ r', (Instr.findKey t x cs).run P w = .ok r' w ∧ FindRel m F r r' := by
  have simple : ∀ d, P.underlying t = some d → ((∃ q a n, d = .int q ∧ k = .int a n) ∨ (∃ s, d = .string ∧ k = .str s) ∨ (∃ b, d = .bool ∧ k = .bool b)) →
      ∃ r', (Instr.findKey t x cs).run P w = .ok r' w ∧ FindRel m F r r' := fun d hu hd => by
    obtain ⟨r', h1, h2⟩ := find_simple hx hd he h
    exact ⟨r', by simp only [Instr.findKey, Sem.run_bind, run_underlying hu, Result.andThen_ok, h1, Sem.run_pure], h2⟩
  unfold keyOk at hk
  split at hk
  · rename_i fields ks hu
    cases hx with
    | agg _ xs hl hr =>
    simp only [Bool.and_eq_true] at hk
    obtain ⟨hk1, hk2⟩ := hk
    have hst : P.stoodInHeld t = false := by simpa using hk2
    cases es with
    | nil =>
      have : cs = [] := List.eq_nil_of_length_eq_zero (by have := he.1.1; simpa using this.symm)
      subst this
      cases h
      exact ⟨none, by simp [Instr.findKey, run_underlying hu, Instr.findNow], trivial⟩
    | cons e es =>
      obtain ⟨c, cs', rfl, h1, h2, h3⟩ := he.cons_left
      obtain ⟨r', h4, h5⟩ := find_struct (w := w) hu hk1 hst ⟨hl, hr⟩ he h
      refine ⟨r', ?_, h5⟩
      simp only [Instr.findKey, Sem.run_bind, run_underlying hu, Result.andThen_ok, Instr.findNow, Instr.sameNow]
      exact h4
  · rename_i q a n hu; exact simple _ hu (.inl ⟨_, _, _, rfl, rfl⟩)
  · rename_i s hu; exact simple _ hu (.inr (.inl ⟨_, rfl, rfl⟩))
  · rename_i b hu; exact simple _ hu (.inr (.inr ⟨_, rfl, rfl⟩))
  · cases hk
end
end Go.Am
