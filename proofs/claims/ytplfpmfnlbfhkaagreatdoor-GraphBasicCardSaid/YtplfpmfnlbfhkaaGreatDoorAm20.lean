/- What an operation does hangs on its operands, and on the objects that it looks at, alone. -/
import Derived.Test.YtplfpmfnlbfhkaaGreatDoorAm19
set_option linter.unusedVariables false
set_option linter.unusedSimpArgs false
namespace Go.Am
open Go

section
variable {P : Program} {g g' : Look}

theorem mapO_congr {α β : Type} {f f' : α → Option β} : ∀ {l : List α}, (∀ x ∈ l, f' x = f x) → mapO f' l = mapO f l
  | [], _ => rfl
  | x :: l, h => by
    simp only [mapO]
    rw [h x List.mem_cons_self, mapO_congr fun y hy => h y (List.mem_cons_of_mem _ hy)]

theorem addrCells_frame {v : AV} (h : ∀ id ∈ idOf v, g' id = g id) : addrCells g' v = addrCells g v := by
  cases v <;> try rfl
  rename_i id ver off
  simp only [addrCells, h id (by simp [idOf])]
theorem srcCells_frame {v : AV} (sz : Nat) (h : ∀ id ∈ idOf v, g' id = g id) : srcCells g' sz v = srcCells g sz v := by
  cases v <;> try rfl
  rename_i id ver off
  simp only [srcCells, h id (by simp [idOf])]
theorem storeA_frame {t : TypeId} {v x : AV} (h : ∀ id ∈ idOf v, g' id = g id) : storeA P t g' v x = storeA P t g v x := by
  cases v <;> try rfl
  rename_i id ver off
  simp only [storeA, h id (by simp [idOf])]
theorem convertA_frame {s d : TypeId} {x : AV} (h : ∀ id ∈ idOf x, g' id = g id) : convertA P g' s d x = convertA P g s d x := by
  have h1 := srcCells_frame 1 h
  simp only [convertA]
  split
  · rfl
  · split <;> first
      | rfl
      | (rw [h1])
      | skip
theorem lenA_frame {t : TypeId} {v : AV} (h : ∀ id ∈ idOf v, g' id = g id) : lenA P g' t v = lenA P g t v := by
  simp only [lenA]
  cases P.underlying t with
  | none => rfl
  | some d => cases d <;> cases v <;> first
    | rfl
    | (rename_i id; simp only [h id (List.mem_singleton.2 rfl)])
theorem lookupA_frame {t : TypeId} {m k : AV} {ok : Bool} (h : ∀ id ∈ idOf m, g' id = g id) : lookupA P g' t m k ok = lookupA P g t m k ok := by
  cases m with
  | map id => simp only [lookupA, h id (by simp [idOf])]
  | _ => simp only [lookupA]
theorem updateA_frame {t : TypeId} {m k v : AV} (h : ∀ id ∈ idOf m, g' id = g id) : updateA P g' t m k v = updateA P g t m k v := by
  simp only [updateA]
  cases P.underlying t with
  | none => rfl
  | some d => cases d <;> cases m <;> first
    | rfl
    | (rename_i id; simp only [h id (List.mem_singleton.2 rfl)])
theorem deleteA_frame {t : TypeId} {m k : AV} (h : ∀ id ∈ idOf m, g' id = g id) : deleteA P g' t m k = deleteA P g t m k := by
  simp only [deleteA]
  cases P.underlying t with
  | none => rfl
  | some d => cases d <;> cases m <;> first
    | rfl
    | (rename_i id; simp only [h id (List.mem_singleton.2 rfl)])
theorem appendA_frame {nid : Nat} {t t2 : TypeId} {s x : AV} (h : ∀ id ∈ idOf s, g' id = g id) (h' : ∀ id ∈ idOf x, g' id = g id) : appendA P g' nid t t2 s x = appendA P g nid t t2 s x := by
  unfold appendA
  cases s with
  | mrow id ver len => simp only [srcCells_frame _ h', h id (by simp [idOf])]
  | row ex l => cases ex <;> simp only [srcCells_frame _ h']
  | _ => simp only [srcCells_frame _ h']
theorem copyA_frame {t : TypeId} {d x : AV} (h : ∀ id ∈ idOf d, g' id = g id) (h' : ∀ id ∈ idOf x, g' id = g id) : copyA P g' t d x = copyA P g t d x := by
  unfold copyA
  cases elemTy P t with
  | none => rfl
  | some e =>
    cases hs : tySize P e with
    | none => simp only [hs]
    | some sz =>
      simp only [hs, srcCells_frame sz h']
      cases srcCells g sz x with
      | none => rfl
      | some p => obtain ⟨xs, k⟩ := p; cases d <;> first
        | rfl
        | (rename_i id ver len; simp only [h id (List.mem_singleton.2 rfl)])

theorem idsOf_mem {ρ : Operand → Option AV} {l : List Operand} {x : Operand} (hx : x ∈ l) {v : AV} (hv : ρ x = some v) {id : Nat} (hi : id ∈ idOf v) : id ∈ idsOf ρ l :=
  List.mem_flatMap.2 ⟨x, hx, by rw [hv]; exact hi⟩

theorem optO_frame {ρ ρ' : Operand → Option AV} {x : Option Operand} (h : ∀ y, x = some y → ρ' y = ρ y) : optO ρ' x = optO ρ x := by
  cases x with
  | none => rfl
  | some y => simp only [optO, h y rfl]

theorem evalParts_frame {ρ ρ' : Operand → Option AV} {l : List (Nat × Operand)} (h : ∀ x ∈ l.map (·.2), ρ' x = ρ x) : evalParts ρ' l = evalParts ρ l :=
  mapO_congr fun p hp => by
    obtain ⟨i, x⟩ := p
    simp only
    rw [h x (List.mem_map.2 ⟨(i, x), hp, rfl⟩)]

theorem opA_frame {E : Env} {o : Oper} {nid nid' : Nat} {ρ ρ' : Operand → Option AV} (hρ : ∀ x ∈ o.op.operands.toList, ρ' x = ρ x)
    (hg : looks o = true → ∀ id ∈ idsOf ρ o.op.operands.toList, g' id = g id) (hn : allocs E o = true → nid' = nid) : opA P o nid' ρ' g' = opA P o nid ρ g := by
  have hid : looks o = true → ∀ x ∈ o.op.operands.toList, ∀ v, ρ x = some v → ∀ id ∈ idOf v, g' id = g id := fun hl x hx v hv id hi => hg hl id (idsOf_mem hx hv hi)
  clear hg
  unfold opA
  unfold looks at hid
  unfold allocs at hn
  cases hop : o.op with
  | move x => rw [hop] at hρ; simp only [hρ x (by simp [Op.operands])]
  | assign x => rw [hop] at hρ; simp only [hρ x (by simp [Op.operands])]
  | pick c a b => rw [hop] at hρ; simp only [hρ c (by simp [Op.operands]), hρ a (by simp [Op.operands]), hρ b (by simp [Op.operands])]
  | alloc t => rw [hop] at hn; simp only [hn rfl]
  | box t x => rw [hop] at hn hρ; simp only [hn rfl, hρ x (by simp [Op.operands])]
  | build t ps => rw [hop] at hρ; simp only [evalParts_frame (ρ := ρ) (ρ' := ρ') (l := ps.toList) fun x hx => hρ x (by simpa [Op.operands] using hx)]
  | buildSlice t n ps => rw [hop] at hρ; simp only [evalParts_frame (ρ := ρ) (ρ' := ρ') (l := ps.toList) fun x hx => hρ x (by simpa [Op.operands] using hx)]
  | load t a =>
    rw [hop] at hρ hid
    simp only [hρ a (by simp [Op.operands])]
    cases hv : ρ a with
    | none => rfl
    | some v => simp only [addrCells_frame (hid rfl a (by simp [Op.operands]) v hv)]
  | store t a x =>
    rw [hop] at hρ hid
    simp only [hρ a (by simp [Op.operands]), hρ x (by simp [Op.operands])]
    cases hv : ρ a with
    | none => rfl
    | some v => cases ρ x with
      | none => rfl
      | some y => simp only [storeA_frame (hid rfl a (by simp [Op.operands]) v hv)]
  | nilCheck x => rw [hop] at hρ; simp only [hρ x (by simp [Op.operands])]
  | binOp op t x y yt => rw [hop] at hρ; simp only [hρ x (by simp [Op.operands]), hρ y (by simp [Op.operands])]
  | unOp op t x => rw [hop] at hρ; simp only [hρ x (by simp [Op.operands])]
  | convert s d x =>
    rw [hop] at hρ hid
    simp only [hρ x (by simp [Op.operands])]
    cases hv : ρ x with
    | none => rfl
    | some v => simp only [convertA_frame (hid rfl x (by simp [Op.operands]) v hv)]
  | makeInterface t x => rw [hop] at hρ; simp only [hρ x (by simp [Op.operands])]
  | makeFunc fn first captured =>
    rw [hop] at hρ
    cases fn <;> try rfl
    simp only
    rw [mapO_congr (f := ρ) (f' := ρ') (l := first.toList) fun x hx => hρ x (by simp [Op.operands]; exact .inl (by simpa using hx)),
      mapO_congr (f := ρ) (f' := ρ') (l := captured.toList) fun x hx => hρ x (by simp [Op.operands]; exact .inr (by simpa using hx))]
  | makeMap t r => rw [hop] at hn; cases r <;> simp only [hn rfl]
  | makeSlice t l c => rw [hop] at hn hρ; simp only [hn rfl, hρ l (by simp [Op.operands]), hρ c (by simp [Op.operands])]
  | slice t x lo hi mx =>
    rw [hop] at hρ
    simp only [hρ x (by simp [Op.operands])]
    rw [optO_frame (ρ := ρ) (ρ' := ρ') (x := lo) fun y hy => hρ y (by subst hy; simp [Op.operands]), optO_frame (ρ := ρ) (ρ' := ρ') (x := hi) fun y hy => hρ y (by subst hy; simp [Op.operands]),
      optO_frame (ρ := ρ) (ρ' := ρ') (x := mx) fun y hy => hρ y (by subst hy; simp [Op.operands])]
  | fieldAddr s x f => rw [hop] at hρ; simp only [hρ x (by simp [Op.operands])]
  | field s x f => rw [hop] at hρ; simp only [hρ x (by simp [Op.operands])]
  | indexAddr t x i => rw [hop] at hρ; simp only [hρ x (by simp [Op.operands]), hρ i (by simp [Op.operands])]
  | index t x i => rw [hop] at hρ; simp only [hρ x (by simp [Op.operands]), hρ i (by simp [Op.operands])]
  | lookup t x k ok =>
    rw [hop] at hρ hid
    simp only [hρ x (by simp [Op.operands]), hρ k (by simp [Op.operands])]
    cases hv : ρ x with
    | none => rfl
    | some v => cases ρ k with
      | none => rfl
      | some y => simp only [lookupA_frame (hid rfl x (by simp [Op.operands]) v hv)]
  | mapUpdate t x k y =>
    rw [hop] at hρ hid
    simp only [hρ x (by simp [Op.operands]), hρ k (by simp [Op.operands]), hρ y (by simp [Op.operands])]
    cases hv : ρ x with
    | none => rfl
    | some v => cases ρ k with
      | none => rfl
      | some y1 => cases ρ y with
        | none => rfl
        | some y2 => simp only [updateA_frame (hid rfl x (by simp [Op.operands]) v hv)]
  | insert t x k y =>
    rw [hop] at hρ hid
    simp only [hρ x (by simp [Op.operands]), hρ k (by simp [Op.operands]), hρ y (by simp [Op.operands])]
    cases hv : ρ x with
    | none => rfl
    | some v => cases ρ k with
      | none => rfl
      | some y1 => cases ρ y with
        | none => rfl
        | some y2 => simp only [updateA_frame (hid rfl x (by simp [Op.operands]) v hv)]
  | extract x i => rw [hop] at hρ; simp only [hρ x (by simp [Op.operands])]
  | call c =>
    rw [hop] at hρ hid hn
    obtain ⟨cal, args, argTypes⟩ := c
    cases cal <;> try rfl
    rename_i b
    have hρ' : ∀ x ∈ args.toList, ρ' x = ρ x := fun x hx => hρ x (by simpa [Op.operands, Call.operands] using hx)
    have hid' : ∀ x ∈ args.toList, ∀ v, ρ x = some v → ∀ id ∈ idOf v, g' id = g id := fun x hx => hid rfl x (by simpa [Op.operands, Call.operands] using hx)
    simp only
    generalize args.toList = as at hρ' hid'
    generalize argTypes.toList = ts
    split
    · rename_i x t
      simp only [hρ' x (by simp)]
      cases hv : ρ x with
      | none => rfl
      | some v => simp only [lenA_frame (hid' x (by simp) v hv)]
    · rename_i s x t t2
      simp only [hρ' x (by simp), hρ' s (by simp), hn rfl]
      cases hv : ρ s with
      | none => rfl
      | some v => cases hv2 : ρ x with
        | none => rfl
        | some v2 => simp only [appendA_frame (hid' s (by simp) v hv) (hid' x (by simp) v2 hv2)]
    · rename_i d x t ts
      simp only [hρ' x (by simp), hρ' d (by simp)]
      cases hv : ρ d with
      | none => rfl
      | some v => cases hv2 : ρ x with
        | none => rfl
        | some v2 => simp only [copyA_frame (hid' d (by simp) v hv) (hid' x (by simp) v2 hv2)]
    · rename_i ts x xs
      rw [hρ' x (by simp), mapO_congr (f := ρ) (f' := ρ') (l := xs) fun y hy => hρ' y (by simp [hy])]
    · rename_i ts x xs
      rw [hρ' x (by simp), mapO_congr (f := ρ) (f' := ρ') (l := xs) fun y hy => hρ' y (by simp [hy])]
    · rename_i m k t ts
      simp only [hρ' m (by simp), hρ' k (by simp)]
      cases hv : ρ m with
      | none => rfl
      | some v => cases ρ k with
        | none => rfl
        | some y => simp only [deleteA_frame (hid' m (by simp) v hv)]
    · rfl
  | _ => rfl
end
end Go.Am
