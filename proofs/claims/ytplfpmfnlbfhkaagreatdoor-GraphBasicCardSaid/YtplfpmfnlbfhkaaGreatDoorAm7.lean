/- Operations, one by one. Third part: indexes, slices of slices, numbers, strings. -/
import Derived.Test.YtplfpmfnlbfhkaaGreatDoorAm6
import Derived.Lib.Strings
set_option linter.unusedVariables false
set_option linter.unusedSimpArgs false
namespace Go.Am
open Go

section
variable {P : Program} {m m' : MMap} {F F' : FMap} {g : Look} {w w' : World}

theorem elemTy_und {t e : TypeId} (h : elemTy P t = some e) : P.underlying t = some (.slice e) := by
  unfold elemTy at h
  split at h
  · rename_i hu; cases h; exact hu
  · cases h

theorem indexAddr_ok {t : TypeId} {x i r : AV} {a b : Value} (hx : VRel m F x a) (hi : VRel m F i b) (h : indexAddrA P t x i = some r) :
    ∃ cv, (Instr.indexAt t a b).run P w = .ok cv w ∧ VRel m F r cv := by
  unfold indexAddrA at h
  split at h
  · rename_i e k n he
    have hu := elemTy_und he
    cases hi
    cases hs : tySize P e with
    | none => rw [hs] at h; cases h
    | some sz =>
      rw [hs] at h
      simp only at h
      cases hx with
      | row ex l a cap b o size vs hex hcap ha hsz hF hv =>
        simp only at h
        split at h
        · rename_i hn
          cases hl : l[n.toNat]? with
          | none => rw [hl] at h; cases h
          | some v =>
            rw [hl] at h
            simp only at h
            split at h
            · rename_i hc
              cases h
              have hlt := (List.getElem?_eq_some_iff.1 hl).1
              have hne : l ≠ [] := by intro e; subst e; simp at hlt
              have hse := hsz _ _ hl
              refine ⟨.pointer (some ⟨b, o + n.toNat * sz, none⟩), ?_, ?_⟩
              · have hlt' : n < (l.length : Int) := by omega
                rw [ha hne]
                simp [Instr.indexAt, asIntOf, run_underlying hu, hn, hlt', tySize_run hs, add_plain]
              · have : size = sz := by omega
                subst this
                exact .fptr _ b _ (fun j => vs n.toNat j) (fun j c hj => hF _ _ _ _ hl hj) (fun j c hj => hv _ _ _ _ hl hj)
            · cases h
        · cases h
      | mrow id ver len loc b cap hm hle hc hcur =>
        simp only at h
        split at h
        · rename_i hn
          cases h
          refine ⟨.pointer (some ⟨b, n.toNat * sz, none⟩), ?_, .ptr id ver _ loc b hm hle fun e => (hcur e).1⟩
          simp [Instr.indexAt, asIntOf, run_underlying hu, hn.1, hn.2, tySize_run hs, add_plain]
        · cases h
      | _ => cases h
  · cases h

theorem bget (s : List UInt8) (n : Nat) : (ByteArray.mk ⟨s⟩)[n]? = s[n]? := by
  by_cases h : n < s.length
  · rw [List.getElem?_eq_getElem h, getElem?_pos (ByteArray.mk ⟨s⟩) n h]
    rfl
  · rw [List.getElem?_eq_none (by omega)]
    exact getElem?_neg (ByteArray.mk ⟨s⟩) n h

theorem index_ok {t : TypeId} {x i r : AV} {a b : Value} (hx : VRel m F x a) (hi : VRel m F i b) (h : indexA P t x i = some r) :
    ∃ cv, (Instr.index t a b).run P w = .ok cv w ∧ VRel m F r cv := by
  unfold indexA at h
  split at h
  · rename_i s k n hu
    cases hx
    cases hi
    split at h
    · rename_i hn
      obtain ⟨c, hc, rfl⟩ := map_some' h
      refine ⟨.int .u8 c.toNat, ?_, .int _ _⟩
      simp [Instr.index, asIntOf, run_underlying hu, hn, bget, hc]
    · cases h
  · cases h

theorem boundA_some {d n : Nat} {x : Option AV} {y : Option Value} (hx : ∀ v, x = some v → ∃ c, y = some c ∧ VRel m F v c) (hn : x = none → y = none) (h : boundA d x = some n) (top : Nat) (code : BoundsCode) (hle : n ≤ top) :
    (y = none ∧ n = d) ∨ ∃ c, y = some c ∧ (Instr.sliceBound c top code).run P w = .ok n w := by
  cases x with
  | none => cases h; exact .inl ⟨hn rfl, rfl⟩
  | some v =>
    obtain ⟨c, hc, hv⟩ := hx v rfl
    cases hv <;> first | (cases h; done) | skip
    rename_i k i
    simp only [boundA] at h
    split at h
    · rename_i hi
      cases h
      refine .inr ⟨_, hc, ?_⟩
      have : i ≤ (top : Int) := by omega
      simp [Instr.sliceBound, asIntOf, hi, this]
    · cases h

theorem bytes_extract (s : List UInt8) (l h : Nat) : (ByteArray.mk ⟨s⟩).extract l h = ⟨⟨(s.take h).drop l⟩⟩ := by
  apply ByteArray.ext
  apply Array.ext'
  rw [Lib.extract_data]
  simp only [List.drop_take]

theorem slice_ok {t : TypeId} {x r : AV} {lo hi mx : Option AV} {a : Value} {lo' hi' mx' : Option Value} (hx : VRel m F x a)
    (hlo : ∀ v, lo = some v → ∃ c, lo' = some c ∧ VRel m F v c) (hlo0 : lo = none → lo' = none)
    (hhi : ∀ v, hi = some v → ∃ c, hi' = some c ∧ VRel m F v c) (hhi0 : hi = none → hi' = none)
    (hmx : ∀ v, mx = some v → ∃ c, mx' = some c ∧ VRel m F v c) (hmx0 : mx = none → mx' = none) (h : sliceA P t x lo hi mx = some r) :
    ∃ cv, (Instr.sliceAt t a lo' hi' mx').run P w = .ok cv w ∧ VRel m F r cv := by
  unfold sliceA at h
  split at h
  · rename_i s hu
    cases hx
    split at h
    · rename_i l hh hl hhb
      split at h
      · rename_i hle
        cases h
        have e0 := hmx0 rfl
        subst e0
        refine ⟨.string ⟨⟨(s.take hh).drop l⟩⟩, ?_, .str _⟩
        have hsz : (ByteArray.mk ⟨s⟩).size = s.length := rfl
        have b2 := boundA_some (P := P) (w := w) hhi hhi0 hhb s.length .sliceAlen hle.2
        have b1 := boundA_some (P := P) (w := w) hlo hlo0 hl hh .sliceB hle.1
        rcases b1 with ⟨rfl, rfl⟩ | ⟨c1, rfl, r1⟩ <;> rcases b2 with ⟨rfl, rfl⟩ | ⟨c2, rfl, r2⟩ <;>
          simp_all [Instr.sliceAt, Instr.slice, Instr.sliceBounds, run_underlying hu, hsz, bytes_extract]
      · cases h
    · cases h
  · rename_i e ex q hu
    cases hsz : tySize P e with
    | none => rw [hsz] at h; cases h
    | some sz =>
    rw [hsz] at h
    simp only at h
    split at h
    case isFalse => cases h
    rename_i hhead
    cases hx with
    | row _ _ a cap b o size vs hex hcap ha hs hF hv =>
      have hsize : q ≠ [] → size = sz := by
        intro hne
        cases q with
        | nil => exact absurd rfl hne
        | cons v vs' =>
          have h1 := hs 0 v rfl
          have h2 : v.cells.length = sz := by simpa [headOk] using hhead
          omega
      have key : ∀ (lo2 hi2 : Nat) (ex' : Bool) (cap' : Nat) (a' : Option Addr), lo2 ≤ hi2 → hi2 ≤ q.length → hi2 - lo2 ≤ cap' → (ex' = true → cap' = hi2 - lo2) →
          (lo2 < hi2 → a' = a.map (·.add (lo2 * sz))) → VRel m F (.row ex' ((q.take hi2).drop lo2)) (.slice a' (hi2 - lo2) cap') := by
        intro lo2 hi2 ex' cap' a' h1 h2 h3 h4 h5
        have hlen : ((q.take hi2).drop lo2).length = hi2 - lo2 := by simp; omega
        rw [← hlen]
        have hget : ∀ (i : Nat) (e : AV), ((q.take hi2).drop lo2)[i]? = some e → q[lo2 + i]? = some e := fun i e he => by
          rw [List.getElem?_drop, List.getElem?_take] at he
          split at he
          · exact he
          · cases he
        refine .row ex' _ a' cap' b (o + lo2 * size) size (fun i j => vs (lo2 + i) j) (fun e => by rw [hlen]; exact h4 e) (by omega) (fun hne => ?_) (fun i e he => hs _ _ (hget i e he))
          (fun i e j c he hj => ?_) (fun i e j c he hj => hv _ _ _ _ (hget i e he) hj)
        · have hlt : lo2 < hi2 := by
            rcases Nat.lt_or_ge lo2 hi2 with h | h
            · exact h
            · exact absurd (List.eq_nil_of_length_eq_zero (by omega)) hne
          have hq : q ≠ [] := by intro e; subst e; simp at h2; omega
          rw [h5 hlt, ha hq, hsize hq]
          simp [add_plain]
        · have := hF _ _ _ _ (hget i e he) hj
          rw [show o + lo2 * size + i * size + j = o + (lo2 + i) * size + j by rw [Nat.add_mul]; omega]
          exact this
      cases mx with
      | none =>
        simp only at h
        have e0 := hmx0 rfl
        subst e0
        cases hl : boundA 0 lo with
        | none => rw [hl] at h; cases h
        | some l =>
        cases hh : boundA q.length hi with
        | none => rw [hl, hh] at h; cases h
        | some hb =>
        rw [hl, hh] at h
        simp only at h
        split at h
        · rename_i hle
          cases h
          have hcl : cap = l → l = hb := fun e => by omega
          refine ⟨.slice (if cap = l then a else a.map (·.add (l * sz))) (hb - l) (cap - l), ?_, ?_⟩
          · have b2 := boundA_some (P := P) (w := w) hhi hhi0 hh cap .sliceAcap (by omega)
            have b1 := boundA_some (P := P) (w := w) hlo hlo0 hl hb .sliceB hle.1
            rcases b1 with ⟨rfl, rfl⟩ | ⟨c1, rfl, r1⟩ <;> rcases b2 with ⟨rfl, rfl⟩ | ⟨c2, rfl, r2⟩ <;>
              simp_all [Instr.sliceAt, Instr.slice, Instr.sliceBounds, run_underlying hu, tySize_run hsz]
          · refine key l hb _ _ _ hle.1 hle.2 (by omega) (fun e => ?_) (fun hlt => ?_)
            · simp at e
              have := hex e.1
              omega
            · rw [if_neg (by omega)]
        · cases h
      | some mv =>
        cases hi with
        | none => cases h
        | some hv' =>
        simp only at h
        cases hl : boundA 0 lo with
        | none => rw [hl] at h; cases h
        | some l =>
        cases hh : boundA 0 (some hv') with
        | none => rw [hl, hh] at h; cases h
        | some hb =>
        cases hm : boundA 0 (some mv) with
        | none => rw [hl, hh, hm] at h; cases h
        | some mb =>
        rw [hl, hh, hm] at h
        simp only at h
        split at h
        · rename_i hle
          cases h
          refine ⟨.slice (if mb = l then a else a.map (·.add (l * sz))) (hb - l) (mb - l), ?_, ?_⟩
          · have b3 := boundA_some (P := P) (w := w) hmx hmx0 hm cap .slice3Acap (by omega)
            have b2 := boundA_some (P := P) (w := w) hhi hhi0 hh mb .slice3B hle.2.1
            have b1 := boundA_some (P := P) (w := w) hlo hlo0 hl hb .slice3C hle.1
            rcases b3 with ⟨h3, -⟩ | ⟨c3, rfl, r3⟩
            · obtain ⟨c, hc, -⟩ := hmx mv rfl; rw [h3] at hc; cases hc
            rcases b2 with ⟨h2, -⟩ | ⟨c2, rfl, r2⟩
            · obtain ⟨c, hc, -⟩ := hhi hv' rfl; rw [h2] at hc; cases hc
            rcases b1 with ⟨rfl, rfl⟩ | ⟨c1, rfl, r1⟩ <;>
              simp_all [Instr.sliceAt, Instr.slice, Instr.sliceBounds, run_underlying hu, tySize_run hsz]
          · refine key l hb _ _ _ hle.1 (by omega) (by omega) (fun e => ?_) (fun hlt => ?_)
            · simp at e; omega
            · rw [if_neg (by omega)]
        · cases h
  · rename_i e id ver len hu
    split at h
    · rename_i sz hsz
      split at h
      · rename_i hb hh
        split at h
        · rename_i hle
          cases h
          have e0 := hmx0 rfl
          have e1 := hlo0 rfl
          subst e0 e1
          cases hx with
          | mrow _ _ _ loc b cap hm hlv hc hcur =>
            refine ⟨.slice (some ⟨b, 0, none⟩) hb cap, ?_, .mrow id ver hb loc b cap hm hlv (by omega) hcur⟩
            have b2 := boundA_some (P := P) (w := w) hhi hhi0 hh cap .sliceAcap (by omega)
            rcases b2 with ⟨rfl, rfl⟩ | ⟨c2, rfl, r2⟩ <;>
              simp_all [Instr.sliceAt, Instr.slice, Instr.sliceBounds, run_underlying hu, tySize_run hsz, Addr.add]
        · cases h
      · cases h
    · cases h
  · cases h

end
end Go.Am
