/- Operations, one by one. Sixth part: append, copy, make. -/
import Derived.Test.YtplfpmfnlbfhkaaGreatDoorAm9
set_option linter.unusedVariables false
set_option linter.unusedSimpArgs false
namespace Go.Am
open Go

section
variable {P : Program} {m m' : MMap} {F F' : FMap} {g : Look} {w w' : World}

theorem src_first (hi : Inv m F g w) {x : AV} {p : Value} (hx : VRel m F x p) {sz k : Nat} {cs : List AV} (h : srcCells g sz x = some (cs, k)) :
    ∃ vs, RelL m F cs vs ∧ vs.length = k * sz ∧ (∀ w2, (Builtin.lenOf p).run P w2 = .ok k w2) ∧ (∀ w2 : World, w2.heap = w.heap → ∀ k', k' ≤ k → (Builtin.firstCells sz k' p).run P w2 = .ok (vs.take (k' * sz)).toArray w2) := by
  rcases src_rel hi hx h with ⟨s, rfl, rfl, rfl, rfl⟩ | ⟨a, cap, b, o, vs, rfl, hk, ha, hr, hl, hcell⟩
  · refine ⟨s.map fun b => .int .u8 b.toNat, RelL.of_get (by simp) fun i u hu => ?_, by simp, fun w2 => ?_, fun w2 _ k' hk' => ?_⟩
    · rw [List.getElem?_map] at hu
      obtain ⟨c, hc, rfl⟩ := map_some' hu
      exact ⟨.int .u8 c.toNat, by simp [hc], .int _ _⟩
    · show (pure (ByteArray.mk ⟨s⟩).size : Sem Nat).run P w2 = _
      rfl
    · simp only [Builtin.firstCells, Sem.run_pure, bytes_extract]
      congr 1
      simp [List.map_take]
  · refine ⟨vs, hr, hl, fun w2 => by simp [Builtin.lenOf], fun w2 hw k' hk' => ?_⟩
    have hlt : (vs.take (k' * sz)).length = k' * sz := by
      rw [List.length_take, hl]
      exact Nat.min_eq_left (Nat.mul_le_mul_right _ hk')
    cases a with
    | none =>
      have hk0 : k = 0 := by
        rcases Nat.eq_zero_or_pos k with h0 | h0
        · exact h0
        · have := ha (by omega); cases this
      have hk0' : k' = 0 := by omega
      subst hk0 hk0'
      simp [Builtin.firstCells]
    | some a =>
      by_cases hk0 : k' * sz = 0
      · have h0 : vs.take (k' * sz) = [] := by rw [hk0]; rfl
        rw [h0]
        simp only [Builtin.firstCells, hk0, loadCells, loadCellsFrom, Sem.run_pure]
      · have hkne : k ≠ 0 := by
          intro e; subst e
          have : k' = 0 := by omega
          subst this; simp at hk0
        have hab := ha hkne
        cases hab
        have := run_loadCells_list (P := P) w2 ⟨b, o, none⟩ (vs.take (k' * sz)) (fun j y hy => by
          rw [add_plain]
          rw [List.getElem?_take] at hy
          split at hy
          · have := hcell j y hy
            simp only [World.cell?, hw] at this ⊢
            exact this
          · cases hy)
        rw [hlt] at this
        simpa [Builtin.firstCells] using this

theorem append_run (t t2 ty e : TypeId) (i : TypeInfo) (d2 : TypeDesc) (zv : Value) (ht : P.underlying t = some (.slice e)) (hi : P.info? e = some i) (hz : i.zero = some zv)
    (hd2 : P.underlying t2 = some d2) (hnint : ∀ k, d2 ≠ .int k) (hzs : zv.cells.size = i.size) (hby : i.bytes ≤ 32768)
    (base : Option Addr) (sLen sCap : Nat) (p : Value) (k : Nat) (old news : List Value)
    (hlen : ∀ w2, (Builtin.lenOf p).run P w2 = .ok k w2) (hnew : ∀ w2 : World, w2.heap = w.heap → (Builtin.firstCells i.size k p).run P w2 = .ok news.toArray w2)
    (hold : ∀ w2 : World, w2.heap = w.heap → (Builtin.firstCells i.size sLen (.slice base sLen sCap)).run P w2 = .ok old.toArray w2)
    (hgrow : sCap < sLen + k) (hlim : sLen + k ≤ lim) :
    (Builtin.append_ #[t, t2] ty #[.slice base sLen sCap, p]).run P w =
      .ok (.slice (some ⟨w.heap.size, 0, none⟩) (sLen + k) (grownCap w (sLen + k) sCap e))
        (w.drew.alloc (.cells (old.toArray ++ news.toArray ++ Builtin.zeroCells zv.cells (grownCap w (sLen + k) sCap e - (sLen + k))) e)) := by
  have hm : (d2 matches .int _) = false := by
    cases d2 <;> first | rfl | (exact absurd rfl (hnint _))
  have h1 : ¬ (sLen + k ≤ sCap) := by omega
  have h2 : ¬ ((sLen + k : Nat) : Int) > IntKind.i64.max := by
    have : IntKind.i64.max = 9223372036854775807 := by decide
    unfold lim at hlim; omega
  have h3 : ¬ Builtin.nextslicecap (sLen + k) sCap * i.bytes > 2 ^ 48 := by
    have := nextslicecap_le hgrow
    have h4 : Builtin.nextslicecap (sLen + k) sCap * i.bytes ≤ 4294967296 * 32768 := Nat.mul_le_mul (by unfold lim at hlim; omega) hby
    omega
  have hnew' := hnew w.drew rfl
  have hold' := hold w.drew rfl
  have hdr : ∀ (c : Nat), (if c > roomBytes then mark .noRoom else pure () : Sem Unit).run P w.drew = .ok () w.drew := fun c => by
    split <;> simp [mark, Sem.run]
  have hrows : ∀ (W : World) (c : Array Value), (newRow e c).run P W = .ok ⟨W.heap.size, 0, none⟩ (W.alloc (.cells c e)) := fun W c => rfl
  have hch : (choose (.appendCap (sLen + k) sCap e)).run P w = .ok (grownCap w (sLen + k) sCap e) w.drew := rfl
  have hroom : ∀ c, (askRoom c).run P w.drew = .ok () w.drew := fun c => by unfold askRoom; exact hdr c
  have hzv : (zeroValue e).run P w.drew = .ok zv w.drew := by simp [zeroValue, typeInfo, hi, hz]
  have hti : ∀ W : World, (typeInfo e).run P W = .ok i W := fun W => by simp [typeInfo, hi]
  have hso : ∀ W : World, (sizeOf e).run P W = .ok i.size W := fun W => by simp [sizeOf, typeInfo, hi]
  unfold Builtin.append_
  simp only [List.getElem?_toArray, List.getElem?_cons_zero, List.getElem?_cons_succ, Sem.run_bind, run_underlying ht, run_underlying hd2, Result.andThen_ok, hso, hti, hlen, h1, if_false, Sem.run_pure]
  simp only [Bool.false_eq_true, if_false, Bool.not_false, if_true, Sem.run_bind, hlen, Result.andThen_ok, h1, hti, h2, false_and, h3, hch, hroom, hold', hnew', hzv, hrows, Sem.run_pure]
  rfl

theorem append_none (t t2 ty e : TypeId) (i : TypeInfo) (d2 : TypeDesc) (ht : P.underlying t = some (.slice e)) (hi : P.info? e = some i)
    (hd2 : P.underlying t2 = some d2) (hnint : ∀ k, d2 ≠ .int k) (base : Option Addr) (sLen sCap : Nat) (p : Value) (hle : sLen ≤ sCap)
    (hlen : ∀ w2, (Builtin.lenOf p).run P w2 = .ok 0 w2) (hnew : (Builtin.firstCells i.size 0 p).run P w = .ok #[] w) :
    (Builtin.append_ #[t, t2] ty #[.slice base sLen sCap, p]).run P w = .ok (.slice base sLen sCap) w := by
  have hso : ∀ W : World, (sizeOf e).run P W = .ok i.size W := fun W => by simp [sizeOf, typeInfo, hi]
  unfold Builtin.append_
  simp only [List.getElem?_toArray, List.getElem?_cons_zero, List.getElem?_cons_succ, Sem.run_bind, run_underlying ht, run_underlying hd2, Result.andThen_ok, hso, Sem.run_pure]
  simp only [Bool.false_eq_true, if_false, Bool.not_false, if_true, Sem.run_bind, hlen, Result.andThen_ok, Nat.add_zero, hle, hnew]
  cases base <;> rfl

theorem append_fits (t t2 ty e : TypeId) (i : TypeInfo) (d2 : TypeDesc) (ht : P.underlying t = some (.slice e)) (hi : P.info? e = some i)
    (hd2 : P.underlying t2 = some d2) (hnint : ∀ k, d2 ≠ .int k) (b : Nat) (sLen sCap : Nat) (p : Value) (k : Nat) (news : List Value)
    (hlen : ∀ w2, (Builtin.lenOf p).run P w2 = .ok k w2) (hnew : (Builtin.firstCells i.size k p).run P w = .ok news.toArray w)
    (hroom : sLen + k ≤ sCap) {arr : Array Value} {te : TypeId} (hb : w.heap[b]? = some (.cells arr te (0, 0))) (hfit : sLen * i.size + news.length ≤ arr.size)
    (hone : ∀ v ∈ news, v.oneCell' = true) :
    (Builtin.append_ #[t, t2] ty #[.slice (some ⟨b, 0, none⟩) sLen sCap, p]).run P w = .ok (.slice (some ⟨b, 0, none⟩) (sLen + k) sCap)
      (w.setRow b (arr.toList.take (sLen * i.size) ++ news ++ arr.toList.drop (sLen * i.size + news.length)).toArray) := by
  have hso : ∀ W : World, (sizeOf e).run P W = .ok i.size W := fun W => by simp [sizeOf, typeInfo, hi]
  have hst := run_storeCells_at P b (sLen * i.size) te news 0 arr w hb (by simpa using hfit) hone
  simp only [Nat.add_zero] at hst
  unfold Builtin.append_
  simp only [List.getElem?_toArray, List.getElem?_cons_zero, List.getElem?_cons_succ, Sem.run_bind, run_underlying ht, run_underlying hd2, Result.andThen_ok, hso, Sem.run_pure]
  simp only [Bool.false_eq_true, if_false, Bool.not_false, if_true, Sem.run_bind, hlen, Result.andThen_ok, hroom, hnew, add_plain, Nat.zero_add, hst, Sem.run_pure]

theorem rel_flat {cs : List AV} {vs : List Value} (hr : RelL m F cs vs) (hf : cs.all AV.flat = true) : ∀ v ∈ vs, v.oneCell' = true := by
  intro v hv
  obtain ⟨j, hj, rfl⟩ := List.getElem_of_mem hv
  have hjl : j < cs.length := by rw [hr.1]; exact hj
  exact (hr.2 j _ _ (List.getElem?_eq_getElem hjl) (List.getElem?_eq_getElem hj)).flat (List.all_eq_true.1 hf _ (List.getElem_mem hjl))

theorem zeroOk_get {t : TypeId} {n : Nat} {i : TypeInfo} (hi : P.info? t = some i) (h : zeroOk P t n = true) : ∃ zv, i.zero = some zv ∧ zv.cells.size = n := by
  unfold zeroOk at h
  cases hz : zeroA P t with
  | none => rw [hz] at h; cases h
  | some z =>
    rw [hz] at h
    obtain ⟨zv, -, hr, i', h1, h2⟩ := zeroA_run hz
    rw [hi] at h1; cases h1
    have h3 : z.cells.length = n := by simpa using h
    exact ⟨zv, h2, by rw [(hr (fun _ => none) (fun _ _ => none)).cells_length]; exact h3⟩

theorem take_prefix {α : Type} (a b : List α) (n : Nat) (h : a.length = n) : (a ++ b).take n = a := by
  subst h; simp

theorem append_ok (hi : Inv m F g w) {nid : Nat} (hn : m nid = none) {t t2 ty : TypeId} {s x v : AV} {u : Ups} {ps px : Value} (hs : VRel m F s ps) (hx : VRel m F x px)
    (h : appendA P g nid t t2 s x = some (v, u)) :
    ∃ cv w' m', (Builtin.append_ #[t, t2] ty #[ps, px]).run P w = .ok cv w' ∧ VRel m' F v cv ∧ Inv m' F (updU g u) w' ∧ Ext m F w m' F w' := by
  unfold appendA at h
  split at h
  · cases h
  · rename_i e d2 hneg he hd2
    have ht := elemTy_und he
    split at h
    · rename_i i hinfo
      split at h
      · rename_i hsz
        obtain ⟨hsz, hby⟩ := hsz
        split at h
        · rename_i xs k hsrc
          obtain ⟨news, hr, hl, hlen, hfirst⟩ := src_first (P := P) hi hx hsrc
          have hnt : ∀ k, d2 ≠ .int k := fun k e' => hneg k (by rw [e'])
          have hfull : news.take (k * i.size) = news := List.take_of_length_le (by omega)
          have hfw : ∀ w2 : World, w2.heap = w.heap → (Builtin.firstCells i.size k px).run P w2 = .ok news.toArray w2 := fun w2 hw => by
            have := hfirst w2 hw k (Nat.le_refl _); rw [hfull] at this; exact this
          split at h
          · rename_i hk
            subst hk
            have hnil : news = [] := List.eq_nil_of_length_eq_zero (by omega)
            subst hnil
            have key : ∀ base n cap, ps = .slice base n cap → n ≤ cap → (Builtin.append_ #[t, t2] ty #[ps, px]).run P w = .ok ps w := fun base n cap e' hc => by
              rw [e']; exact append_none t t2 ty e i d2 ht hinfo hd2 hnt base n cap px hc hlen (hfw w rfl)
            split at h
            · cases h
              refine ⟨ps, w, m, ?_, hs, hi, Ext.refl⟩
              cases hs with
              | row ex l a cap b o size vs hex hcap ha hs hF hv => exact key _ _ _ rfl hcap
            · cases h
              refine ⟨ps, w, m, ?_, hs, hi, Ext.refl⟩
              cases hs with
              | mrow id ver len loc b cap hm hle hc hcur => exact key _ _ _ rfl hc
            · cases h
          · rename_i hk
            split at h
            · rename_i l
              split at h
              · rename_i hc
                obtain ⟨hall, hlim, hzero⟩ := hc
                cases h
                obtain ⟨zv, hz, hzs⟩ := zeroOk_get hinfo hzero
                obtain ⟨a, cap, b, o, vs, rfl, hcap, hex, ha, hr2, hl2, hcell⟩ := row_cells hi hs (all_len hall)
                have hcapl := hex rfl
                have hold : ∀ w2 : World, w2.heap = w.heap → (Builtin.firstCells i.size l.length (.slice a l.length cap)).run P w2 = .ok vs.toArray w2 := fun w2 hw => by
                  have hsrc2 : srcCells g i.size (.row true l) = some (l.flatMap AV.cells, l.length) := by
                    simp only [srcCells, hall, if_true]
                  obtain ⟨vs2, h1, h2, h3, h4⟩ := src_first (P := P) hi hs hsrc2
                  cases a with
                  | none =>
                    have h0 : l.length = 0 := by
                      rcases Nat.eq_zero_or_pos l.length with h0 | h0
                      · exact h0
                      · have := ha (by omega); cases this
                    have hv : vs = [] := List.eq_nil_of_length_eq_zero (by rw [hl2, h0]; simp)
                    subst hv
                    simp [Builtin.firstCells]
                  | some a =>
                    by_cases h0 : l.length = 0
                    · have hv : vs = [] := List.eq_nil_of_length_eq_zero (by rw [hl2, h0]; simp)
                      subst hv
                      simp only [Builtin.firstCells, h0, Nat.zero_mul, loadCells, loadCellsFrom, Sem.run_pure]
                    · have hab := ha h0
                      cases hab
                      have := run_loadCells_list (P := P) w2 ⟨b, o, none⟩ vs (fun j y hy => by
                        rw [add_plain]
                        have := hcell j y hy
                        simp only [World.cell?, hw] at this ⊢
                        exact this)
                      rw [hl2] at this
                      simpa [Builtin.firstCells] using this
                have hrun := append_run (P := P) (w := w) t t2 ty e i d2 zv ht hinfo hz hd2 hnt hzs hby a l.length cap px k vs news hlen hfw hold (by omega) hlim
                have hge := grownCap_ge w (l.length + k) cap e
                have hzc := size_zeroCells zv.cells (grownCap w (l.length + k) cap e - (l.length + k))
                have hlen2 : (l.flatMap AV.cells ++ xs).length = (l.length + k) * i.size := by rw [List.length_append, hr2.1, hr.1, hl2, hl, Nat.add_mul]
                have htot : (l.length + k) * i.size + (grownCap w (l.length + k) cap e - (l.length + k)) * i.size = grownCap w (l.length + k) cap e * i.size := by
                  rw [← Nat.add_mul]; congr 1; omega
                have hvl : vs.length + news.length = (l.length + k) * i.size := by rw [hl2, hl, Nat.add_mul]
                obtain ⟨h5, h6⟩ := new_cells (hi.drew (w.drawn + 1)) hn i.size (grownCap w (l.length + k) cap e) (c := l.flatMap AV.cells ++ xs)
                  (arr := vs.toArray ++ news.toArray ++ Builtin.zeroCells zv.cells (grownCap w (l.length + k) cap e - (l.length + k))) e
                  (by simp only [Array.size_append, List.size_toArray, hzc, hzs]; omega)
                  (by simp only [Array.size_append, List.size_toArray, hzc, hzs]; omega)
                  (by
                    have : (vs.toArray ++ news.toArray ++ Builtin.zeroCells zv.cells (grownCap w (l.length + k) cap e - (l.length + k))).toList.take (l.flatMap AV.cells ++ xs).length = vs ++ news := by
                      simp only [Array.toList_append]
                      exact take_prefix _ _ _ (by rw [List.length_append, hlen2, hvl])
                    rw [this]
                    exact hr2.append hr)
                exact ⟨_, _, _, hrun, .mrow nid 0 (l.length + k) ⟨w.heap.size, 0, i.size, grownCap w (l.length + k) cap e, false⟩ w.heap.size _ (by simp [updM]) (Nat.le_refl _) hge (fun _ => ⟨rfl, rfl⟩), h5, (Ext.drew _).trans h6⟩
              · cases h
            · rename_i id ver len
              split at h
              · rename_i sz ver' fz c hg
                split at h
                · rename_i hc
                  obtain ⟨hver, hsz', hlc, hfz, hlim, hzero, hflat⟩ := hc
                  subst hver hsz'
                  cases h
                  obtain ⟨zv, hz, hzs⟩ := zeroOk_get hinfo hzero
                  obtain ⟨l1, arr, te, h1, h2, h3, h4, h5, h6, h7, h8, h9⟩ := hi.objs _ _ hg
                  cases hs with
                  | mrow _ _ _ loc b cap hm hle hc hcur =>
                  have e1 : loc = l1 := by rw [hm] at h1; exact Option.some.inj h1
                  subst e1
                  obtain ⟨hb, hcap⟩ := hcur h3.symm
                  subst hb hcap
                  have hone := rel_flat hr hflat
                  have hxl : xs.length = k * i.size := by rw [hr.1]; exact hl
                  have hlen2 : (c.take (len * i.size) ++ xs).length = (len + k) * i.size := by
                    rw [List.length_append, List.length_take, hxl, Nat.add_mul]; omega
                  have hcap' : len * i.size ≤ loc.cap * i.size := Nat.mul_le_mul_right _ hc
                  have htk : (arr.toList.take c.length).take (len * i.size) = arr.toList.take (len * i.size) := by
                    rw [List.take_take]; congr 1; omega
                  have hold2 : RelL m F (c.take (len * i.size)) (arr.toList.take (len * i.size)) := by
                    rw [← htk]; exact h8.take _
                  have hnew2 : RelL m F (c.take (len * i.size) ++ xs) (arr.toList.take (len * i.size) ++ news) := hold2.append hr
                  by_cases hroom : len + k ≤ loc.cap
                  · have hrk : (len + k) * i.size ≤ loc.cap * i.size := Nat.mul_le_mul_right _ hroom
                    have hfit : len * i.size + news.length ≤ arr.size := by
                      rw [hl]; rw [Nat.add_mul] at hrk; omega
                    have hrun := append_fits (P := P) (w := w) t t2 ty e i d2 ht hinfo hd2 hnt loc.block len loc.cap px k news hlen (hfw w rfl) hroom h5 hfit hone
                    have hb2 : (w.setRow loc.block (arr.toList.take (len * i.size) ++ news ++ arr.toList.drop (len * i.size + news.length)).toArray).heap[loc.block]? =
                        some (.cells (arr.toList.take (len * i.size) ++ news ++ arr.toList.drop (len * i.size + news.length)).toArray te (0, 0)) := setRow_heap w loc.block arr _ te (0, 0) h5
                    have hput := hi.put id { loc with ver := ver' + 1 } (.cells i.size (ver' + 1) fz (c.take (len * i.size) ++ xs)) (by simp)
                      (w' := w.setRow loc.block (arr.toList.take (len * i.size) ++ news ++ arr.toList.drop (len * i.size + news.length)).toArray)
                      (fun l hl' => by rw [hm] at hl'; cases hl'; exact ⟨by simp; omega, fun e' => by simp at e'; omega, fun e' => by rw [h2] at e'; cases e'⟩)
                      (.inr ⟨loc, hm, rfl⟩) (by rw [setRow_size]; exact hi.dom id loc hm) (by rw [setRow_size]; exact Nat.le_refl _)
                      (fun b hb' hn' => setRow_other w loc.block b _ (fun e' => hn' loc hm e'.symm))
                      (fun l j y hl' hf => by
                        rw [hm] at hl'; cases hl'
                        have hj : j < fz := by
                          rcases Nat.lt_or_ge j fz with h | h
                          · exact h
                          · rw [h9 j h] at hf; cases hf
                        have h0 := hi.froz _ _ _ hf
                        simp only [World.cell?, h5] at h0
                        simp only [World.cell?, hb2]
                        have hjl : j < arr.size := by
                          rcases Nat.lt_or_ge j arr.size with h | h
                          · exact h
                          · simp [Array.getElem?_eq_none h] at h0
                        simp only [List.append_assoc, List.getElem?_toArray, Option.isSome_none, Bool.false_eq_true, if_false] at h0 ⊢
                        rw [List.getElem?_append_left (by rw [List.length_take, Array.length_toList]; omega), List.getElem?_take, if_pos (by omega), Array.getElem?_toList]
                        exact h0)
                      ⟨rfl, rfl, rfl⟩
                      (fun hg' => ⟨{ loc with ver := ver' + 1 }, _, te, by simp [updM], h2, rfl, h4, hb2, by
                          simp only [List.size_toArray, List.length_append, List.length_take, List.length_drop, Array.length_toList]
                          omega, by
                          rw [hlen2]
                          simp only [List.size_toArray, List.length_append, List.length_take, List.length_drop, Array.length_toList]
                          rw [Nat.add_mul]; omega, by
                          rw [hlen2]
                          simp only [List.toList_toArray]
                          rw [take_prefix _ _ _ (by rw [List.length_append, List.length_take, hl, Nat.add_mul, Array.length_toList]; omega)]
                          exact hnew2.mono hg', h9⟩)
                    exact ⟨_, _, _, hrun, .mrow id (ver' + 1) (len + k) { loc with ver := ver' + 1 } loc.block loc.cap (by simp [updM]) (Nat.le_refl _) hroom (fun _ => ⟨rfl, rfl⟩), hput.1, hput.2⟩
                  · have hge := grownCap_ge w (len + k) loc.cap e
                    have hold : ∀ w2 : World, w2.heap = w.heap → (Builtin.firstCells i.size len (.slice (some ⟨loc.block, 0, none⟩) len loc.cap)).run P w2 = .ok (arr.toList.take (len * i.size)).toArray w2 := fun w2 hw => by
                      have := run_loadCells_list (P := P) w2 ⟨loc.block, 0, none⟩ (arr.toList.take (len * i.size)) (fun j y hy => by
                        rw [add_plain, Nat.zero_add]
                        rw [List.getElem?_take] at hy
                        split at hy
                        · simp only [World.cell?, hw, h5]; simpa using hy
                        · cases hy)
                      rw [show (arr.toList.take (len * i.size)).length = len * i.size by simp; omega] at this
                      simpa [Builtin.firstCells] using this
                    have hrun := append_run (P := P) (w := w) t t2 ty e i d2 zv ht hinfo hz hd2 hnt hzs hby (some ⟨loc.block, 0, none⟩) len loc.cap px k (arr.toList.take (len * i.size)) news hlen hfw hold (by omega) hlim
                    have hzc := size_zeroCells zv.cells (grownCap w (len + k) loc.cap e - (len + k))
                    have htot : (len + k) * i.size + (grownCap w (len + k) loc.cap e - (len + k)) * i.size = grownCap w (len + k) loc.cap e * i.size := by
                      rw [← Nat.add_mul]; congr 1; omega
                    have hvl : (arr.toList.take (len * i.size)).length + news.length = (len + k) * i.size := by
                      rw [hl, Nat.add_mul, List.length_take, Array.length_toList]; omega
                    have hnew : (w.drew.alloc (.cells ((arr.toList.take (len * i.size)).toArray ++ news.toArray ++ Builtin.zeroCells zv.cells (grownCap w (len + k) loc.cap e - (len + k))) e)).heap[w.heap.size]? =
                        some (.cells ((arr.toList.take (len * i.size)).toArray ++ news.toArray ++ Builtin.zeroCells zv.cells (grownCap w (len + k) loc.cap e - (len + k))) e (0, 0)) := by
                      show (w.heap.push _)[w.heap.size]? = _
                      simp
                    have hi' := hi.drew (w.drawn + 1)
                    have hput := hi'.put id ⟨w.heap.size, ver' + 1, i.size, grownCap w (len + k) loc.cap e, false⟩ (.cells i.size (ver' + 1) fz (c.take (len * i.size) ++ xs)) (by simp)
                      (w' := w.drew.alloc (.cells ((arr.toList.take (len * i.size)).toArray ++ news.toArray ++ Builtin.zeroCells zv.cells (grownCap w (len + k) loc.cap e - (len + k))) e))
                      (fun l hl' => by rw [hm] at hl'; cases hl'; exact ⟨by simp; omega, fun e' => by simp at e'; omega, fun e' => by rw [h2] at e'; cases e'⟩)
                      (.inl (Nat.le_refl _)) (by simp) (by simp)
                      (fun b hb' _ => RowKit.Below.heap_alloc w.drew _ b hb')
                      (fun l j y hl' hf => by
                        have hlt := hi.dom id l hl'
                        rw [cell_of_block (RowKit.Below.heap_alloc w.drew _ l.block hlt) j]
                        exact hi.froz _ _ _ hf)
                      ⟨rfl, rfl, rfl⟩
                      (fun hg' => ⟨_, _, e, by simp [updM]; rfl, rfl, rfl, rfl, hnew, by
                          simp only [Array.size_append, List.size_toArray, hzc, hzs]; omega, by
                          rw [hlen2]
                          simp only [Array.size_append, List.size_toArray, hzc, hzs]; omega, by
                          rw [hlen2]
                          simp only [Array.toList_append]
                          rw [take_prefix _ _ _ (by rw [List.length_append]; exact hvl)]
                          exact hnew2.mono hg', fun j _ => hi.fnone (Nat.le_refl _) j⟩)
                    exact ⟨_, _, _, hrun, .mrow id (ver' + 1) (len + k) ⟨w.heap.size, ver' + 1, i.size, grownCap w (len + k) loc.cap e, false⟩ w.heap.size _ (by simp [updM]) (Nat.le_refl _) hge (fun _ => ⟨rfl, rfl⟩), hput.1, (Ext.drew _).trans hput.2⟩
                · cases h
              · cases h
            · cases h
        · cases h
      · cases h
    · cases h
  · cases h
end
end Go.Am
