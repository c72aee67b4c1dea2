/- Regions whose order is open: in each order they do what they do in the text's. -/
import Derived.Test.YtplfpmfnlbfhkaaGreatDoorAm23
import Derived.LoopN
set_option linter.unusedVariables false
set_option linter.unusedSimpArgs false
namespace Go.Am
open Go

section
variable {E : Env} {rec : Code → Fr → Option (Ex × Fr)}

theorem textO_seq {ops : Array Oper} : ∀ (l : List Oper) (nid : Nat) (f f' : Fr) (ts : List Note), textO E rec ops l nid f = some (f', ts) →
    ts.length = l.length ∧ ∃ (fs : Nat → Fr) (nids : Nat → Nat), fs 0 = f ∧ fs l.length = f' ∧ ∀ (j : Nat) (o : Oper), l[j]? = some o → ∃ t, ts[j]? = some t ∧ stepN E rec ops o (nids j) (fs j) = some (fs (j + 1), t)
  | [], nid, f, f', ts, h => by
    simp only [textO] at h
    cases h
    exact ⟨rfl, fun _ => f, fun _ => 0, rfl, rfl, fun j o ho => by simp at ho⟩
  | o :: l, nid, f, f', ts, h => by
    simp only [textO] at h
    split at h
    · rename_i f1 t h1
      split at h
      · rename_i f2 ts2 h2
        cases h
        obtain ⟨k1, fs, nids, k2, k3, k4⟩ := textO_seq l _ _ _ _ h2
        refine ⟨by simp [k1], fun j => match j with | 0 => f | j + 1 => fs j, fun j => match j with | 0 => nid | j + 1 => nids j, rfl, k3, fun j x hx => ?_⟩
        cases j with
        | zero =>
          simp at hx; subst hx
          refine ⟨t, rfl, ?_⟩
          change stepN E rec ops o nid f = some (fs 0, t)
          rw [k2]; exact h1
        | succ j => exact k4 j x (by simpa using hx)
      · cases h
    · cases h

/-- A region that was run in the order of its text. -/
structure Ran (E : Env) (rec : Code → Fr → Option (Ex × Fr)) (ops : Array Oper) (fs : Nat → Fr) (nids : Nat → Nat) (ts : List Note) (befs : List Nat) : Prop where
  step : ∀ (j : Nat) (o : Oper), ops[j]? = some o → ∃ t, ts[j]? = some t ∧ stepN E rec ops o (nids j) (fs j) = some (fs (j + 1), t)
  back : ∀ (j : Nat) (o : Oper), ops[j]? = some o → ∀ e ∈ o.after, Region.binds .any e = true → e.on < j
  bef : ∀ (j k : Nat), (befs.getD j 0).testBit k = true → ∃ o, ops[j]? = some o ∧ ∃ e ∈ o.after, Region.binds .any e = true ∧ (k = e.on ∨ (befs.getD e.on 0).testBit k = true)
  sl : ∀ (j k : Nat) (o p : Oper), ops[j]? = some o → ops[k]? = some p → k < j → (befs.getD j 0).testBit k = true ∨ Oper.apart ops o p = true
  nt : ∀ (j k : Nat) (a b : Note), ts[j]? = some a → ts[k]? = some b → k < j → (befs.getD j 0).testBit k = true ∨ Apart a b

section
variable {ops : Array Oper} {fs : Nat → Fr} {nids : Nat → Nat} {ts : List Note} {befs : List Nat}

def dstIs (ops : Array Oper) (j t : Nat) : Bool := (ops[j]?).bind (·.dst) == some t
def wrHas (ts : List Note) (j id : Nat) : Bool := match ts[j]? with
  | some t => t.wr.contains id
  | none => false

theorem Ran.text (hr : Ran E rec ops fs nids ts befs) {j : Nat} {o : Oper} {t : Note} (ho : ops[j]? = some o) (ht : ts[j]? = some t) : Text o (fs j) (fs (j + 1)) t := by
  obtain ⟨t', h1, h2⟩ := hr.step j o ho
  rw [ht] at h1; cases h1
  exact stepN_text h2

theorem Ran.slot (hr : Ran E rec ops fs nids ts befs) (t : Nat) : ∀ k, k ≤ ops.size → sget (fs k).s t = sget (fs (idx (fun j => dstIs ops j t) k)).s t
  | 0, _ => rfl
  | k + 1, hk => by
    simp only [idx]
    split
    · rfl
    · rename_i hd
      obtain ⟨o, ho⟩ : ∃ o, ops[k]? = some o := ⟨ops[k], Array.getElem?_eq_getElem (by omega)⟩
      obtain ⟨nt, h1, h2⟩ := hr.step k o ho
      rw [(stepN_text h2).s t (fun e => hd (by simp [dstIs, ho, e])), hr.slot t k (by omega)]

theorem Ran.obj (hr : Ran E rec ops fs nids ts befs) (id : Nat) : ∀ k, k ≤ ops.size → look (fs k).h id = look (fs (idx (fun j => wrHas ts j id) k)).h id
  | 0, _ => rfl
  | k + 1, hk => by
    simp only [idx]
    split
    · rfl
    · rename_i hd
      obtain ⟨o, ho⟩ : ∃ o, ops[k]? = some o := ⟨ops[k], Array.getElem?_eq_getElem (by omega)⟩
      obtain ⟨nt, h1, h2⟩ := hr.step k o ho
      rw [(stepN_text h2).h id (fun e => hd (by simp [wrHas, h1, e])), hr.obj id k (by omega)]

theorem Ran.same (hr : Ran E rec ops fs nids ts befs) : ∀ k, k ≤ ops.size → (fs k).n = (fs 0).n ∧ (fs k).d = (fs 0).d
  | 0, _ => ⟨rfl, rfl⟩
  | k + 1, hk => by
    obtain ⟨o, ho⟩ : ∃ o, ops[k]? = some o := ⟨ops[k], Array.getElem?_eq_getElem (by omega)⟩
    obtain ⟨nt, h1, h2⟩ := hr.step k o ho
    obtain ⟨h3, h4⟩ := hr.same k (by omega)
    exact ⟨(stepN_text h2).n.trans h3, (stepN_text h2).d.trans h4⟩

/-- The slots, where just the operations of 'D' are done. -/
def slotsOf (ops : Array Oper) (fs : Nat → Fr) (D : Nat → Bool) : Nat → AV := fun t => sget (fs (idx (fun j => D j && dstIs ops j t) ops.size)).s t
/-- The objects there. -/
def objsOf (ops : Array Oper) (fs : Nat → Fr) (ts : List Note) (D : Nat → Bool) : Look := fun id => look (fs (idx (fun j => D j && wrHas ts j id) ops.size)).h id

/-- What is done holds what is done ahead of it. -/
def Down (befs : List Nat) (D : Nat → Bool) : Prop := ∀ j, D j = true → ∀ k, (befs.getD j 0).testBit k = true → D k = true

theorem apart_facts {x y : Oper} (h : Oper.apart ops x y = true) : (∀ d, x.dst = some d → d ∉ y.looksAt ops ∧ y.dst ≠ some d) ∧ ∀ d, y.dst = some d → d ∉ x.looksAt ops := by
  unfold Oper.apart at h
  simp only [Bool.and_eq_true] at h
  refine ⟨fun d hd => ?_, fun d hd => ?_⟩
  · rw [hd] at h; simpa using h.1
  · rw [hd] at h; simpa using h.2

variable {D : Nat → Bool} {i : Nat} {o : Oper} {t : Note}

/-- An operation that is next: those behind it in the text, done already, are unordered with it; and those ahead, not done. -/
theorem Ran.next_sl (hr : Ran E rec ops fs nids ts befs) (hD : Down befs D) (ho : ops[i]? = some o) (hi : D i = false) (hpre : ∀ k, (befs.getD i 0).testBit k = true → D k = true)
    {j : Nat} {p : Oper} (hp : ops[j]? = some p) (hj : j ≠ i) (hDj : (j < i → D j = false) ∧ (i < j → D j = true)) : Oper.apart ops o p = true ∨ Oper.apart ops p o = true := by
  rcases Nat.lt_or_gt_of_ne hj with h | h
  · rcases hr.sl i j o p ho hp h with h1 | h1
    · have := hpre j h1; rw [hDj.1 h] at this; cases this
    · exact .inl h1
  · rcases hr.sl j i p o hp ho h with h1 | h1
    · have := hD j (hDj.2 h) i h1; rw [hi] at this; cases this
    · exact .inr h1

theorem Ran.next_nt (hr : Ran E rec ops fs nids ts befs) (hD : Down befs D) (ht : ts[i]? = some t) (hi : D i = false) (hpre : ∀ k, (befs.getD i 0).testBit k = true → D k = true)
    {j : Nat} {u : Note} (hu : ts[j]? = some u) (hj : j ≠ i) (hDj : (j < i → D j = false) ∧ (i < j → D j = true)) : Apart t u := by
  rcases Nat.lt_or_gt_of_ne hj with h | h
  · rcases hr.nt i j t u ht hu h with h1 | h1
    · have := hpre j h1; rw [hDj.1 h] at this; cases this
    · exact h1
  · rcases hr.nt j i u t hu ht h with h1 | h1
    · have := hD j (hDj.2 h) i h1; rw [hi] at this; cases this
    · exact h1.symm

theorem Ran.looks_slot (hr : Ran E rec ops fs nids ts befs) (hD : Down befs D) (ho : ops[i]? = some o) (hi : D i = false) (hpre : ∀ k, (befs.getD i 0).testBit k = true → D k = true)
    {s : Nat} (hs : s ∈ o.looksAt ops) : slotsOf ops fs D s = sget (fs i).s s := by
  have hlt : i < ops.size := (Array.getElem?_eq_some_iff.1 ho).1
  rw [hr.slot s i (by omega)]
  unfold slotsOf
  have bad : ∀ j, j ≠ i → ((j < i → D j = false) ∧ (i < j → D j = true)) → dstIs ops j s = false := by
    intro j hj hDj
    cases hd : dstIs ops j s with
    | false => rfl
    | true =>
      exfalso
      unfold dstIs at hd
      cases hp : ops[j]? with
      | none => rw [hp] at hd; simp at hd
      | some p =>
        rw [hp] at hd
        have hd' : p.dst = some s := by simpa using hd
        rcases hr.next_sl hD ho hi hpre hp hj hDj with h1 | h1
        · exact (apart_facts h1).2 s hd' hs
        · exact ((apart_facts h1).1 s hd').1 hs
  rw [idx_agree (q := fun j => dstIs ops j s) (i := i) (by omega) (fun j hj => ?_) (fun j h1 h2 => ?_)]
  · cases hDj : D j with
    | true => simp
    | false => simp [bad j (by omega) ⟨fun _ => hDj, fun h => by omega⟩]
  · by_cases hji : j = i
    · subst hji; simp [hi]
    · cases hDj : D j with
      | false => simp
      | true => simp [bad j hji ⟨fun h => by omega, fun _ => hDj⟩]

theorem Ran.looks_obj (hr : Ran E rec ops fs nids ts befs) (hD : Down befs D) (ho : ops[i]? = some o) (ht : ts[i]? = some t) (hi : D i = false) (hpre : ∀ k, (befs.getD i 0).testBit k = true → D k = true)
    {id : Nat} (hs : id ∈ t.foot ∨ t.all = true) : objsOf ops fs ts D id = look (fs i).h id := by
  have hlt : i < ops.size := (Array.getElem?_eq_some_iff.1 ho).1
  rw [hr.obj id i (by omega)]
  unfold objsOf
  have bad : ∀ j, j ≠ i → ((j < i → D j = false) ∧ (i < j → D j = true)) → wrHas ts j id = false := by
    intro j hj hDj
    unfold wrHas
    cases hu : ts[j]? with
    | none => rfl
    | some u =>
      have h1 := hr.next_nt hD ht hi hpre hu hj hDj
      have h2 : id ∉ u.wr := fun hw => by
        rcases hs with hs | hs
        · exact h1.ab id hs hw
        · rw [h1.aw hs] at hw; simp at hw
      simpa using h2
  rw [idx_agree (q := fun j => wrHas ts j id) (i := i) (by omega) (fun j hj => ?_) (fun j h1 h2 => ?_)]
  · cases hDj : D j with
    | true => simp
    | false => simp [bad j (by omega) ⟨fun _ => hDj, fun h => by omega⟩]
  · by_cases hji : j = i
    · subst hji; simp [hi]
    · cases hDj : D j with
      | false => simp
      | true => simp [bad j hji ⟨fun h => by omega, fun _ => hDj⟩]

theorem Ran.next_slots (hr : Ran E rec ops fs nids ts befs) (hD : Down befs D) (ho : ops[i]? = some o) (hi : D i = false) (hpre : ∀ k, (befs.getD i 0).testBit k = true → D k = true)
    {D' : Nat → Bool} (h1 : D' i = true) (h2 : ∀ j, j ≠ i → D' j = D j) : slotsOf ops fs D' = nextS (slotsOf ops fs D) o (fs (i + 1)) := by
  have hlt : i < ops.size := (Array.getElem?_eq_some_iff.1 ho).1
  funext s
  unfold nextS slotsOf
  split
  · rename_i hd
    rw [idx_at (p := fun j => D' j && dstIs ops j s) hlt (by simp [h1, dstIs, ho, hd]) (fun j ha hb => ?_)]
    rw [h2 j (by omega)]
    cases hDj : D j with
    | false => rfl
    | true =>
      obtain ⟨p, hp⟩ : ∃ p, ops[j]? = some p := ⟨ops[j], Array.getElem?_eq_getElem (by omega)⟩
      have hne : p.dst ≠ some s := by
        rcases hr.next_sl hD ho hi hpre hp (by omega) ⟨fun h => by omega, fun _ => hDj⟩ with h3 | h3
        · exact ((apart_facts h3).1 s hd).2
        · intro hps
          exact ((apart_facts h3).1 s hps).2 hd
      simpa [dstIs, hp] using hne
  · rename_i hd
    rw [idx_congr (q := fun j => D j && dstIs ops j s) fun j hj => ?_]
    by_cases hji : j = i
    · subst hji
      have : dstIs ops j s = false := by simpa [dstIs, ho] using hd
      simp [this]
    · rw [h2 j hji]

theorem Ran.next_objs (hr : Ran E rec ops fs nids ts befs) (hD : Down befs D) (ho : ops[i]? = some o) (ht : ts[i]? = some t) (hi : D i = false) (hpre : ∀ k, (befs.getD i 0).testBit k = true → D k = true)
    {D' : Nat → Bool} (h1 : D' i = true) (h2 : ∀ j, j ≠ i → D' j = D j) : objsOf ops fs ts D' = nextG (objsOf ops fs ts D) t (fs (i + 1)) := by
  have hlt : i < ops.size := (Array.getElem?_eq_some_iff.1 ho).1
  funext id
  unfold nextG objsOf
  split
  · rename_i hw
    rw [idx_at (p := fun j => D' j && wrHas ts j id) hlt (by simp [h1, wrHas, ht, hw]) (fun j ha hb => ?_)]
    rw [h2 j (by omega)]
    cases hDj : D j with
    | false => rfl
    | true =>
      unfold wrHas
      cases hu : ts[j]? with
      | none => rfl
      | some u =>
        have h3 := hr.next_nt hD ht hi hpre hu (by omega) ⟨fun h => by omega, fun _ => hDj⟩
        have h4 : id ∉ u.wr := fun hwu => by
          cases hall : t.all with
          | true => rw [h3.aw hall] at hwu; simp at hwu
          | false => exact h3.ab id ((hr.text ho ht).wf hall id hw) hwu
        simpa using h4
  · rename_i hw
    rw [idx_congr (q := fun j => D j && wrHas ts j id) fun j hj => ?_]
    by_cases hji : j = i
    · subst hji
      have : wrHas ts j id = false := by simpa [wrHas, ht] using hw
      simp [this]
    · rw [h2 j hji]

theorem free_all (fs : Nat → Fr) : ∀ n, ∃ N, ∀ k, k ≤ n → (fs k).h.length ≤ N
  | 0 => ⟨(fs 0).h.length, fun k hk => by
      obtain rfl : k = 0 := by omega
      exact Nat.le_refl _⟩
  | n + 1 => by
    obtain ⟨N, hN⟩ := free_all fs n
    refine ⟨max N (fs (n + 1)).h.length, fun k hk => ?_⟩
    by_cases h : k = n + 1
    · subst h; exact Nat.le_max_right _ _
    · exact Nat.le_trans (hN k (by omega)) (Nat.le_max_left _ _)

theorem Ran.free (hr : Ran E rec ops fs nids ts befs) (D : Nat → Bool) : ∃ k, Void (objsOf ops fs ts D) k := by
  obtain ⟨N, hN⟩ := free_all fs ops.size
  refine ⟨N, .inl ?_⟩
  unfold objsOf
  exact List.getElem?_eq_none (hN _ (idx_le _ _))

theorem Ran.any_ok (hE : EnvOk E) (hrec : RecOk E rec) (hr : Ran E rec ops fs nids ts befs) {Q : Exit → Act → World → Prop} {m0 : MMap} {F0 : FMap} {w0 : World}
    (hQ : GoesV E.P m0 F0 w0 (sget (fs ops.size).s) (look (fs ops.size).h) (fs 0).d (fs 0).n (Q .normal)) :
    ∀ (fuel : Nat) (listed : Array Bool) (m : MMap) (F : FMap) (a : Act) (w : World), listed.size = ops.size → Down befs (fun j => listed.getD j false) → cnt (fun j => listed.getD j false) ops.size ≤ fuel →
      VFr E.P m F (slotsOf ops fs fun j => listed.getD j false) (objsOf ops fs ts fun j => listed.getD j false) (fs 0).d (fs 0).n a w → Ext m0 F0 w0 m F w →
      wpAny E.P .any ops Q fuel listed a w := by
  have hdone : ∀ (D : Nat → Bool) (m : MMap) (F : FMap) (a : Act) (w : World), (∀ j, j < ops.size → D j = true) → VFr E.P m F (slotsOf ops fs D) (objsOf ops fs ts D) (fs 0).d (fs 0).n a w → Ext m0 F0 w0 m F w → Q .normal a w := by
    intro D m F a w hall hv he
    have e1 : slotsOf ops fs D = sget (fs ops.size).s := by
      funext s
      unfold slotsOf
      rw [hr.slot s ops.size (Nat.le_refl _), idx_congr (q := fun j => dstIs ops j s) fun j hj => by simp [hall j hj]]
    have e2 : objsOf ops fs ts D = look (fs ops.size).h := by
      funext id
      unfold objsOf
      rw [hr.obj id ops.size (Nat.le_refl _), idx_congr (q := fun j => wrHas ts j id) fun j hj => by simp [hall j hj]]
    rw [e1, e2] at hv
    exact hQ m F a w hv he
  have hready : ∀ (listed : Array Bool), listed.size = ops.size → Region.ready .any ops listed = [] → ∀ j, j < ops.size → listed.getD j false = true := by
    intro listed hsz hnil j
    induction j using Nat.strongRecOn with
    | _ j ih =>
      intro hj
      cases hd : listed.getD j false with
      | true => rfl
      | false =>
        exfalso
        obtain ⟨o, ho⟩ : ∃ o, ops[j]? = some o := ⟨ops[j], Array.getElem?_eq_getElem hj⟩
        have : j ∈ Region.ready .any ops listed := by
          refine mem_ready.2 ⟨?_, o, ho, fun e he hb => ih e.on (hr.back j o ho e he hb) (by have := hr.back j o ho e he hb; omega)⟩
          simp only [Array.getD_eq_getD_getElem?, Array.getElem?_eq_getElem (show j < listed.size by omega), Option.getD_some] at hd ⊢
          exact hd
        rw [hnil] at this
        cases this
  intro fuel
  induction fuel with
  | zero =>
    intro listed m F a w hsz hD hc hv he
    have hall := cnt_zero (D := fun j => listed.getD j false) (n := ops.size) (by omega)
    refine ⟨?_, hdone _ m F a w hall hv he⟩
    cases hrd : Region.ready .any ops listed with
    | nil => rfl
    | cons x xs =>
      exfalso
      have hx : x ∈ Region.ready .any ops listed := by rw [hrd]; exact List.mem_cons_self
      obtain ⟨h0, o, ho, -⟩ := mem_ready.1 hx
      have hlt : x < ops.size := (Array.getElem?_eq_some_iff.1 ho).1
      have := hall x hlt
      simp only [Array.getD_eq_getD_getElem?, Array.getElem?_eq_getElem (show x < listed.size by omega), Option.getD_some] at h0 this
      rw [h0] at this; cases this
  | succ fuel ih =>
    intro listed m F a w hsz hD hc hv he
    refine ⟨fun hnil => hdone _ m F a w (hready listed hsz hnil) hv he, fun i hi => ?_⟩
    obtain ⟨h0, o, ho, hall⟩ := mem_ready.1 hi
    have hlt : i < ops.size := (Array.getElem?_eq_some_iff.1 ho).1
    have hDi : listed.getD i false = false := by
      simp only [Array.getD_eq_getD_getElem?, Array.getElem?_eq_getElem (show i < listed.size by omega), Option.getD_some] at h0 ⊢
      exact h0
    have hpre : ∀ k, (befs.getD i 0).testBit k = true → listed.getD k false = true := by
      intro k hk
      obtain ⟨o', ho', e, he1, he2, he3⟩ := hr.bef i k hk
      rw [ho] at ho'; cases ho'
      have := hall e he1 he2
      rcases he3 with rfl | he3
      · exact this
      · exact hD e.on this k he3
    obtain ⟨t, ht, hst⟩ := hr.step i o ho
    have hD1 : (listed.setIfInBounds i true).getD i false = true := by
      simp [show i < listed.size by omega]
    have hD2 : ∀ j, j ≠ i → (listed.setIfInBounds i true).getD j false = listed.getD j false := fun j hj => getD_set_ne false (fun e => hj e.symm)
    obtain ⟨hn, hd⟩ := hr.same i (by omega)
    have hstep := stepN_ok (Q := Q) (K := wpAny E.P .any ops Q fuel (listed.setIfInBounds i true)) hE hrec hst
      (S := slotsOf ops fs fun j => listed.getD j false) (G := objsOf ops fs ts fun j => listed.getD j false) (by rw [hn, hd]; exact hv)
      (fun s hs => hr.looks_slot hD ho hDi hpre hs) (fun hta => funext fun id => hr.looks_obj hD ho ht hDi hpre (.inr hta)) (fun id hid => hr.looks_obj hD ho ht hDi hpre (.inl hid))
      (hr.free _) (fun m' F' a' w' hv' he' => by
        rw [hn, hd, ← hr.next_slots hD ho hDi hpre hD1 hD2, ← hr.next_objs hD ho ht hDi hpre hD1 hD2] at hv'
        refine ih _ m' F' a' w' (by simp [hsz]) (fun j hj k hk => ?_) ?_ hv' (he.trans he')
        · by_cases hji : j = i
          · subst hji
            exact getD_set_true (hpre k hk)
          · have hj' : (listed.setIfInBounds i true).getD j false = true := hj
            rw [hD2 j hji] at hj'
            exact getD_set_true (hD j hj' k hk)
        · have := cnt_step (D := fun j => listed.getD j false) (D' := fun j => (listed.setIfInBounds i true).getD j false) (n := ops.size) hDi hD1 hD2 hlt
          omega)
    unfold wpOp
    rw [ho]
    simp only
    split
    · rename_i hw; rw [if_pos hw] at hstep; exact .inl hstep
    · rename_i hw; rw [if_neg hw] at hstep; exact hstep
end

theorem look_gone (h : Heap) (k : Nat) : GEq (look h) (look (h ++ List.replicate k AObj.gone)) := by
  intro i
  simp only [look, Void]
  by_cases h1 : i < h.length
  · exact .inl (List.getElem?_append_left h1)
  · refine .inr ⟨.inl (List.getElem?_eq_none (by omega)), ?_⟩
    rw [List.getElem?_append_right (by omega), List.getElem?_replicate]
    split
    · exact .inr rfl
    · exact .inl rfl

theorem drawn_ok (hE : EnvOk E) (hrec : RecOk E rec) {id : Nat} {ops : Array Oper} {f f' : Fr} (h : drawnA E rec ops f = some f') : CodeOk E.P (.region id ops true) f .normal f' := by
  unfold drawnA at h
  split at h
  · rename_i f1 ts htext
    split at h
    · rename_i hchk
      cases h
      simp only [Bool.and_eq_true] at hchk
      obtain ⟨hto, hnote⟩ := hchk
      unfold textOk at hto
      simp only [Bool.and_eq_true] at hto
      obtain ⟨hlen, fs, nids, h0, h1, h2⟩ := textO_seq _ _ _ _ _ htext
      have hget : ∀ j : Nat, ops.toList[j]? = ops[j]? := fun j => Array.getElem?_toList ..
      have hr : Ran E rec ops fs nids ts (befL ops.toList []) := by
        refine ⟨fun j o ho => h2 j o (by rw [hget]; exact ho), fun j o ho e he hb => ?_, fun j k hk => ?_, fun j k o p ho hp hkj => ?_, fun j k x y hx hy hkj => ?_⟩
        · have := edgesOk_spec _ 0 j o hto.1 (by rw [hget]; exact ho) e (by simpa using he) hb
          omega
        · obtain ⟨o, h3, e, h4, h5⟩ := befL_spec ops.toList [] j k (by simpa using hk)
          exact ⟨o, by rw [← hget]; exact h3, e, by simpa using h4, h5⟩
        · exact apartAll_spec _ [] _ hto.2 j k o p (by rw [hget]; exact ho) (by rw [List.nil_append, hget]; exact hp) (by simpa using hkj)
        · exact noteAll_spec _ [] _ hnote j k x y hx (by simpa using hy) (by simpa using hkj)
      intro m F a w hf
      refine wp_region_any hE.mixed ?_
      have hf0 : (fs 0).d = f.d ∧ (fs 0).n = f.n ∧ (fs 0).s = f.s := by rw [h0]; exact ⟨rfl, rfl, rfl⟩
      obtain ⟨hs1, hs2⟩ := hr.same ops.size (Nat.le_refl _)
      have hsz : fs ops.size = f' := by rw [← h1]; simp
      refine hr.any_ok hE hrec (m0 := m) (F0 := F) (w0 := w) ?_ ops.size (Array.replicate ops.size false) m F a { w with drawn := w.drawn + 1 } (by simp) ?_ (cnt_le _ _) ?_ (Ext.drew _)
      · intro m' F' a' w' hv he
        rw [hsz] at hv hs1 hs2
        exact ⟨rfl, m', F', ⟨hv.inv, hv.sl, by rw [hs1]; exact hv.nn, by rw [hs2]; exact hv.de⟩, he⟩
      · intro j hj
        exfalso
        have hj' : (Array.replicate ops.size false).getD j false = true := hj
        rw [Array.getD_eq_getD_getElem?, Array.getElem?_replicate] at hj'
        split at hj' <;> cases hj'
      · have hD0 : ∀ j, (Array.replicate ops.size false).getD j false = false := fun j => by
          rw [Array.getD_eq_getD_getElem?, Array.getElem?_replicate]; split <;> rfl
        have e1 : (slotsOf ops fs fun j => (Array.replicate ops.size false).getD j false) = sget f.s := by
          funext s
          unfold slotsOf
          have := idx_none (fun j => (Array.replicate ops.size false).getD j false && dstIs ops j s) 0 ops.size (fun j _ _ => by rw [hD0 j]; rfl)
          rw [Nat.zero_add] at this
          rw [this]
          simp only [idx]
          rw [hf0.2.2]
        have e2 : (objsOf ops fs ts fun j => (Array.replicate ops.size false).getD j false) = look (fs 0).h := by
          funext id
          unfold objsOf
          have := idx_none (fun j => (Array.replicate ops.size false).getD j false && wrHas ts j id) 0 ops.size (fun j _ _ => by rw [hD0 j]; rfl)
          rw [Nat.zero_add] at this
          rw [this]
          rfl
        rw [e1, e2, hf0.1, hf0.2.1, h0]
        exact ⟨(hf.inv.congr (look_gone _ _)).drew _, hf.sl, hf.nn, hf.de⟩
    · cases h
  · cases h

/-! ### Code -/
/-- Behind code that was run. -/
def Post (P : Program) (m : MMap) (F : FMap) (w : World) (e : Ex) (f' : Fr) : Exit → Act → World → Prop := fun ex a' w' => ex = e.to ∧ ∃ m' F', FrOk P m' F' f' a' w' ∧ Ext m F w m' F' w'

def LoopOk (E : Env) (n : Nat) : Prop := ∀ (b : Code) (f : Fr) (e : Ex) (f' : Fr), evC E n (.loop b) f = some (e, f') → ∀ (m0 : MMap) (F0 : FMap) (w0 : World) (m : MMap) (F : FMap) (a : Act) (w : World),
  FrOk E.P m F f a w → Ext m0 F0 w0 m F w → Code.rounds E.P b (Post E.P m0 F0 w0 e f') n a w

theorem loop_ok {n : Nat} (ih : RecOk E (evC E n)) (il : LoopOk E n) : LoopOk E (n + 1) := by
  intro b f e f' h m0 F0 w0 m F a w hf he
  simp only [evC] at h
  rw [rounds_succ]
  split at h
  · rename_i f1 h1
    refine Code.wp_mono (fun ex a1 w1 hq => ?_) (ih _ _ _ _ h1 m F a w hf)
    obtain ⟨rfl, m1, F1, hf1, he1⟩ := hq
    exact il _ _ _ _ h m0 F0 w0 m1 F1 a1 w1 hf1 (he.trans he1)
  · rename_i r hne
    refine Code.wp_mono (fun ex a1 w1 hq => ?_) (ih _ _ _ _ h m F a w hf)
    obtain ⟨rfl, m1, F1, hf1, he1⟩ := hq
    cases e with
    | normal => exact absurd h (hne f')
    | exit id => exact ⟨rfl, m1, F1, hf1, he.trans he1⟩
    | ret => exact ⟨rfl, m1, F1, hf1, he.trans he1⟩

theorem evC_both (hE : EnvOk E) : ∀ n, RecOk E (evC E n) ∧ LoopOk E n
  | 0 => ⟨fun c f e f' h => (by cases h), fun b f e f' h => (by cases h)⟩
  | n + 1 => by
    obtain ⟨ih, il⟩ := evC_both hE n
    refine ⟨?_, loop_ok ih il⟩
    intro c f e f' h
    cases c with
    | skip =>
      simp only [evC] at h; cases h
      exact fun m F a w hf => wp_skip ⟨rfl, m, F, hf, Ext.refl⟩
    | region id ops draw =>
      simp only [evC] at h
      split at h
      · rename_i f1 h1
        cases h
        cases draw with
        | true => exact drawn_ok hE ih h1
        | false => exact region_ok hE ih h1
      · cases h
    | seq x y =>
      simp only [evC] at h
      split at h
      · rename_i f1 h1
        intro m F a w hf
        refine wp_seq (Code.wp_mono (fun ex a1 w1 hq => ?_) (ih _ _ _ _ h1 m F a w hf))
        obtain ⟨rfl, m1, F1, hf1, he1⟩ := hq
        refine Code.wp_mono (fun ex a2 w2 hq => ?_) (ih _ _ _ _ h m1 F1 a1 w1 hf1)
        obtain ⟨rfl, m2, F2, hf2, he2⟩ := hq
        exact ⟨rfl, m2, F2, hf2, he1.trans he2⟩
      · rename_i r hne
        intro m F a w hf
        refine wp_seq (Code.wp_mono (fun ex a1 w1 hq => ?_) (ih _ _ _ _ h m F a w hf))
        obtain ⟨rfl, hq⟩ := hq
        cases e with
        | normal => exact absurd h (hne f')
        | exit id => exact ⟨rfl, hq⟩
        | ret => exact ⟨rfl, hq⟩
    | cond x y z =>
      simp only [evC] at h
      split at h
      · rename_i t ht
        intro m F a w hf
        have hx := opnd_rel hf.sl ht
        generalize hxe : a.eval x = xv at hx
        cases hx
        refine wp_cond hxe ?_
        cases t with
        | true => exact ih _ _ _ _ h m F a w hf
        | false => exact ih _ _ _ _ h m F a w hf
      · cases h
    | block id b =>
      simp only [evC] at h
      split at h
      · rename_i id' f1 h1
        cases h
        intro m F a w hf
        refine wp_block (Code.wp_mono (fun ex a1 w1 hq => ?_) (ih _ _ _ _ h1 m F a w hf))
        obtain ⟨rfl, hq⟩ := hq
        simp only [Ex.to, Exit.inBlock]
        split
        · exact ⟨rfl, hq⟩
        · exact ⟨rfl, hq⟩
      · rename_i r hne
        intro m F a w hf
        refine wp_block (Code.wp_mono (fun ex a1 w1 hq => ?_) (ih _ _ _ _ h m F a w hf))
        obtain ⟨rfl, hq⟩ := hq
        cases e with
        | normal => exact ⟨rfl, hq⟩
        | exit id => exact absurd h (hne id f')
        | ret => exact ⟨rfl, hq⟩
    | loop b =>
      intro m F a w hf
      exact wp_loop_rounds (n + 1) (loop_ok ih il b f e f' h m F w m F a w hf Ext.refl)
    | exit id =>
      simp only [evC] at h; cases h
      exact fun m F a w hf => wp_exit ⟨rfl, m, F, hf, Ext.refl⟩
    | ret =>
      simp only [evC] at h; cases h
      exact fun m F a w hf => wp_ret ⟨rfl, m, F, hf, Ext.refl⟩
    | _ => simp only [evC] at h; cases h

theorem evC_ok (hE : EnvOk E) (n : Nat) : RecOk E (evC E n) := (evC_both hE n).1
end
end Go.Am
