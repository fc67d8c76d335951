/- An operation of the D machine hangs on nothing but its operands and the blocks that they name. No condition. -/
import Derived.Test.YtjnllnigogpagadDvN
namespace Go.Dv

theorem slots_of {xs : List DOpnd} {x : DOpnd} (hx : x ∈ xs) {t : Nat} (ht : t ∈ x.slots) : t ∈ slotsOf xs := List.mem_flatMap.2 ⟨x, hx, ht⟩

theorem opnd_congr {tm tm' : List V} {x : DOpnd} (h : ∀ t, t ∈ x.slots → tm.getD t .undef = tm'.getD t .undef) : evalOpnd tm x = evalOpnd tm' x := by
  cases x with
  | tmp t => exact h t (by simp [DOpnd.slots])
  | const v => rfl

theorem opnds_congr {tm tm' : List V} {xs : List DOpnd} (h : ∀ t, t ∈ slotsOf xs → tm.getD t .undef = tm'.getD t .undef) : xs.map (evalOpnd tm) = xs.map (evalOpnd tm') :=
  List.map_congr_left fun _ hx => opnd_congr fun t ht => h t (slots_of hx ht)

theorem fillV_congr {tm tm' : List V} : ∀ {ps : List (Nat × Nat × DOpnd)} {cs : List V}, (∀ t, t ∈ slotsOf (ps.map (·.2.2)) → tm.getD t .undef = tm'.getD t .undef) →
    fillV (evalOpnd tm) ps cs = fillV (evalOpnd tm') ps cs
  | [], _, _ => rfl
  | (off, size, x) :: rest, cs, h => by
    have hx : evalOpnd tm x = evalOpnd tm' x := opnd_congr fun t ht => h t (slots_of (by simp) ht)
    simp only [fillV, hx]
    split
    · exact fillV_congr fun t ht => h t (by simp only [List.map_cons, slotsOf, List.flatMap_cons, List.mem_append] at ht ⊢; exact .inr ht)
    · rfl

theorem fillRows_congr {tm tm' : List V} {esz : Nat} : ∀ {ps : List (Nat × DOpnd)} {es : List (List V)}, (∀ t, t ∈ slotsOf (ps.map (·.2)) → tm.getD t .undef = tm'.getD t .undef) →
    fillRows (evalOpnd tm) esz ps es = fillRows (evalOpnd tm') esz ps es
  | [], _, _ => rfl
  | (i, x) :: rest, es, h => by
    have hx : evalOpnd tm x = evalOpnd tm' x := opnd_congr fun t ht => h t (slots_of (by simp) ht)
    simp only [fillRows, hx]
    split
    · exact fillRows_congr fun t ht => h t (by simp only [List.map_cons, slotsOf, List.flatMap_cons, List.mem_append] at ht ⊢; exact .inr ht)
    · rfl

theorem opt_congr {tm tm' : List V} {x : Option DOpnd} (h : ∀ t, t ∈ slotsOf x.toList → tm.getD t .undef = tm'.getD t .undef) : x.map (evalOpnd tm) = x.map (evalOpnd tm') := by
  cases x with
  | none => rfl
  | some x => exact congrArg some (opnd_congr fun t ht => h t (slots_of (by simp) ht))

/-- Other slots may hold what they will. -/
theorem evalOp_congr {op : DOp} {tm tm' : List V} (h : ∀ t, t ∈ op.uses → tm.getD t .undef = tm'.getD t .undef) (hp : Heap) (fr : Nat) : evalOp op (evalOpnd tm) hp fr = evalOp op (evalOpnd tm') hp fr := by
  have o : ∀ {x : DOpnd}, (∀ t, t ∈ x.slots → t ∈ op.uses) → evalOpnd tm x = evalOpnd tm' x := fun hx => opnd_congr fun t ht => h t (hx t ht)
  cases op with
  | move x => simp only [evalOp, o (x := x) fun t ht => ht]
  | pick c a b => simp only [evalOp, o (x := c) fun t ht => slots_of (by simp) ht, o (x := a) fun t ht => slots_of (by simp) ht, o (x := b) fun t ht => slots_of (by simp) ht]
  | alloc z => rfl
  | box x => simp only [evalOp, o (x := x) fun t ht => ht]
  | build z ps => simp only [evalOp, fillV_congr h]
  | buildSlice e l z ps => simp only [evalOp, fillRows_congr h]
  | load n x => simp only [evalOp, o (x := x) fun t ht => ht]
  | store n a x => simp only [evalOp, o (x := a) fun t ht => slots_of (by simp) ht, o (x := x) fun t ht => slots_of (by simp) ht]
  | nilCheck x => simp only [evalOp, o (x := x) fun t ht => ht]
  | bin op k a x => simp only [evalOp, o (x := a) fun t ht => slots_of (by simp) ht, o (x := x) fun t ht => slots_of (by simp) ht]
  | un op x => simp only [evalOp, o (x := x) fun t ht => ht]
  | conv k x => simp only [evalOp, o (x := x) fun t ht => ht]
  | makeMap r => simp only [evalOp, opt_congr h]
  | makeSlice e b z a x => simp only [evalOp, o (x := a) fun t ht => slots_of (by simp) ht, o (x := x) fun t ht => slots_of (by simp) ht]
  | slice e x lo hi =>
    simp only [evalOp, o (x := x) fun t ht => slots_of (by simp) ht, opt_congr (x := lo) fun t ht => h t (by simp only [DOp.uses, slotsOf, List.flatMap_append, List.mem_append] at ht ⊢; exact .inl (.inr ht)),
      opt_congr (x := hi) fun t ht => h t (by simp only [DOp.uses, slotsOf, List.flatMap_append, List.mem_append] at ht ⊢; exact .inr ht)]
  | cutArr n x lo hi =>
    simp only [evalOp, o (x := x) fun t ht => slots_of (by simp) ht, opt_congr (x := lo) fun t ht => h t (by simp only [DOp.uses, slotsOf, List.flatMap_append, List.mem_append] at ht ⊢; exact .inl (.inr ht)),
      opt_congr (x := hi) fun t ht => h t (by simp only [DOp.uses, slotsOf, List.flatMap_append, List.mem_append] at ht ⊢; exact .inr ht)]
  | fieldAddr n x => simp only [evalOp, o (x := x) fun t ht => ht]
  | field f n x => simp only [evalOp, o (x := x) fun t ht => ht]
  | indexAddr a e x y => simp only [evalOp, o (x := x) fun t ht => slots_of (by simp) ht, o (x := y) fun t ht => slots_of (by simp) ht]
  | index a x y => simp only [evalOp, o (x := x) fun t ht => slots_of (by simp) ht, o (x := y) fun t ht => slots_of (by simp) ht]
  | lookup kk z ok x y => simp only [evalOp, o (x := x) fun t ht => slots_of (by simp) ht, o (x := y) fun t ht => slots_of (by simp) ht]
  | mapUpdate kk m k x => simp only [evalOp, o (x := m) fun t ht => slots_of (by simp) ht, o (x := k) fun t ht => slots_of (by simp) ht, o (x := x) fun t ht => slots_of (by simp) ht]
  | extract x n => simp only [evalOp, o (x := x) fun t ht => ht]
  | range x => simp only [evalOp, o (x := x) fun t ht => ht]
  | next x => simp only [evalOp, o (x := x) fun t ht => ht]
  | entry x => simp only [evalOp, o (x := x) fun t ht => ht]
  | len k x => simp only [evalOp, o (x := x) fun t ht => ht]
  | minmax mx x y => simp only [evalOp, o (x := x) fun t ht => slots_of (by simp) ht, o (x := y) fun t ht => slots_of (by simp) ht]
  | append e b z a x => simp only [evalOp, o (x := a) fun t ht => slots_of (by simp) ht, o (x := x) fun t ht => slots_of (by simp) ht]
  | fail => rfl
  | makeFunc f caps => simp only [evalOp, opnds_congr h]
  | call => rfl
  | callv => rfl

/-- The blocks that an operation may write: one that it makes, and, if it writes what it is handed, that. -/
def DOp.writes (op : DOp) (ρ : DOpnd → V) (fr κ : Nat) : Prop := (κ = fr ∧ op.makes = true) ∨ (op.cls = 3 ∧ κ ∈ op.keys ρ)

instance (op : DOp) (ρ : DOpnd → V) (fr κ : Nat) : Decidable (op.writes ρ fr κ) := by unfold DOp.writes; infer_instance

/-- What an operation does, told of any heap that is the same at the blocks that it is handed. -/
structure Local (op : DOp) (ρ : DOpnd → V) (h : Heap) (fr : Nat) (v : V) (h1 : Heap) : Prop where
  there : ∀ κ, κ ∈ op.keys ρ → h κ ≠ none
  keep : ∀ κ, ¬ op.writes ρ fr κ → h1 κ = h κ
  other : ∀ h' : Heap, h' fr = h fr → (∀ κ, κ ∈ op.keys ρ → h' κ = h κ) → ∃ h1', evalOp op ρ h' fr = some (v, h1') ∧ ∀ κ, h1' κ = if op.writes ρ fr κ then h1 κ else h' κ

theorem Local.pure {op : DOp} {ρ : DOpnd → V} {h : Heap} {fr : Nat} {v : V} {h1 : Heap} (hk : op.keys ρ = []) (hm : op.makes = false) (hc : op.cls ≠ 3) (f : Option V)
    (he : ∀ h', evalOp op ρ h' fr = keepH h' f) (hev : evalOp op ρ h fr = some (v, h1)) : Local op ρ h fr v h1 := by
  have hw : ∀ κ, ¬ op.writes ρ fr κ := fun κ hw => by rcases hw with ⟨_, hw⟩ | ⟨hw, _⟩ <;> simp_all
  rw [he] at hev
  obtain ⟨hf, rfl⟩ := keepH_some hev
  exact ⟨fun κ hκ => (by rw [hk] at hκ; cases hκ), fun κ _ => rfl, fun h' _ _ => ⟨h', (by rw [he, hf]; rfl), fun κ => (by rw [if_neg (hw κ)])⟩⟩

theorem Local.read {op : DOp} {ρ : DOpnd → V} {h : Heap} {fr : Nat} {v : V} {h1 : Heap} (hm : op.makes = false) (hc : op.cls ≠ 3) (f : Heap → Option V)
    (he : ∀ h', evalOp op ρ h' fr = keepH h' (f h')) (ht : ∀ u, f h = some u → ∀ κ, κ ∈ op.keys ρ → h κ ≠ none) (hf : ∀ h', (∀ κ, κ ∈ op.keys ρ → h' κ = h κ) → f h' = f h)
    (hev : evalOp op ρ h fr = some (v, h1)) : Local op ρ h fr v h1 := by
  have hw : ∀ κ, ¬ op.writes ρ fr κ := fun κ hw => by rcases hw with ⟨_, hw⟩ | ⟨hw, _⟩ <;> simp_all
  rw [he] at hev
  obtain ⟨hfv, rfl⟩ := keepH_some hev
  exact ⟨ht v hfv, fun κ _ => rfl, fun h' _ hh => ⟨h', by rw [he, hf h' hh, hfv]; rfl, fun κ => by rw [if_neg (hw κ)]⟩⟩

theorem Local.make {op : DOp} {ρ : DOpnd → V} {h : Heap} {fr : Nat} {v : V} {h1 : Heap} (hk : op.keys ρ = []) (hm : op.makes = true) (hc : op.cls ≠ 3) {u : V} {b : Blk}
    (he : ∀ h', evalOp op ρ h' fr = some (u, h'.put fr (some b))) (hev : evalOp op ρ h fr = some (v, h1)) : Local op ρ h fr v h1 := by
  rw [he] at hev
  simp only [Option.some.injEq, Prod.mk.injEq] at hev
  obtain ⟨rfl, rfl⟩ := hev
  have hw : ∀ κ, op.writes ρ fr κ ↔ κ = fr := fun κ => ⟨fun h => by rcases h with ⟨h, _⟩ | ⟨h, _⟩ <;> simp_all, fun h => .inl ⟨h, hm⟩⟩
  refine ⟨fun κ hκ => (by rw [hk] at hκ; cases hκ), fun κ hκ => ?_, fun h' _ _ => ⟨_, he h', fun κ => ?_⟩⟩
  · rw [hw] at hκ; simp [Heap.put, hκ]
  · by_cases e : κ = fr
    · rw [if_pos ((hw κ).2 e)]; simp [Heap.put, e]
    · rw [if_neg (fun h => e ((hw κ).1 h))]; simp [Heap.put, e]

theorem Local.makeRead {op : DOp} {ρ : DOpnd → V} {h : Heap} {fr : Nat} {v : V} {h1 : Heap} (hm : op.makes = true) (hc : op.cls ≠ 3) {u : V} {b : Blk} (ht : ∀ κ, κ ∈ op.keys ρ → h κ ≠ none)
    (he : ∀ h' : Heap, (∀ κ, κ ∈ op.keys ρ → h' κ = h κ) → evalOp op ρ h' fr = some (u, h'.put fr (some b))) (hev : evalOp op ρ h fr = some (v, h1)) : Local op ρ h fr v h1 := by
  rw [he h (fun _ _ => rfl)] at hev
  simp only [Option.some.injEq, Prod.mk.injEq] at hev
  obtain ⟨rfl, rfl⟩ := hev
  have hw : ∀ κ, op.writes ρ fr κ ↔ κ = fr := fun κ => ⟨fun h => by rcases h with ⟨h, _⟩ | ⟨h, _⟩ <;> simp_all, fun h => .inl ⟨h, hm⟩⟩
  refine ⟨ht, fun κ hκ => ?_, fun h' _ hh => ⟨_, he h' hh, fun κ => ?_⟩⟩
  · rw [hw] at hκ; simp [Heap.put, hκ]
  · by_cases e : κ = fr
    · rw [if_pos ((hw κ).2 e)]; simp [Heap.put, e]
    · rw [if_neg (fun h => e ((hw κ).1 h))]; simp [Heap.put, e]

theorem Local.change {op : DOp} {ρ : DOpnd → V} {h : Heap} {fr : Nat} {v : V} {h1 : Heap} (hm : op.makes = false) (hc : op.cls = 3) (ht : ∀ κ, κ ∈ op.keys ρ → h κ ≠ none) (up : Heap → Heap) (hup : h1 = up h)
    (he : ∀ h' : Heap, (∀ κ, κ ∈ op.keys ρ → h' κ = h κ) → evalOp op ρ h' fr = some (v, up h')) (hn : ∀ (h' : Heap) κ, κ ∉ op.keys ρ → up h' κ = h' κ)
    (hy : ∀ (h' : Heap), (∀ κ, κ ∈ op.keys ρ → h' κ = h κ) → ∀ κ, κ ∈ op.keys ρ → up h' κ = up h κ) : Local op ρ h fr v h1 := by
  have hw : ∀ κ, op.writes ρ fr κ ↔ κ ∈ op.keys ρ := fun κ => ⟨fun h => by rcases h with ⟨_, h⟩ | ⟨_, h⟩ <;> simp_all, fun h => .inr ⟨hc, h⟩⟩
  subst hup
  refine ⟨ht, fun κ hκ => hn h κ (fun hk => hκ ((hw κ).2 hk)), fun h' _ hh => ⟨_, he h' hh, fun κ => ?_⟩⟩
  by_cases e : κ ∈ op.keys ρ
  · rw [if_pos ((hw κ).2 e)]; exact hy h' hh κ e
  · rw [if_neg (fun h => e ((hw κ).1 h))]; exact hn h' κ e

theorem ptrCells_key {h : Heap} {p : V} {r : List V × Nat} (hr : ptrCells h p = some r) : ∀ κ, κ ∈ p.key → h κ ≠ none := by
  intro κ hκ
  cases p <;> simp only [V.key] at hκ <;> first | (cases hκ; done) | skip
  all_goals simp only [ptrCells] at hr
  all_goals first | (cases hr; done) | skip
  simp only [List.mem_singleton] at hκ
  subst hκ
  intro h0
  rw [h0] at hr
  cases hr

theorem ptrCells_congr {h h' : Heap} {p : V} (hh : ∀ κ, κ ∈ p.key → h' κ = h κ) : ptrCells h' p = ptrCells h p := by
  cases p with
  | ptr b i j => simp only [ptrCells]; rw [hh b (by simp [V.key])]
  | _ => rfl

theorem slElems_key {h : Heap} {esz : Nat} {p : V} {r : List (List V)} (hr : slElems h esz p = some r) : ∀ κ, κ ∈ p.key → h κ ≠ none := by
  intro κ hκ
  cases p <;> simp only [V.key] at hκ <;> first | (cases hκ; done) | skip
  all_goals simp only [slElems] at hr
  all_goals first | (cases hr; done) | skip
  simp only [List.mem_singleton] at hκ
  subst hκ
  intro h0
  rw [h0] at hr
  cases hr

theorem slElems_congr {h h' : Heap} {esz : Nat} {p : V} (hh : ∀ κ, κ ∈ p.key → h' κ = h κ) : slElems h' esz p = slElems h esz p := by
  cases p with
  | sl b o l z => simp only [slElems]; rw [hh b (by simp [V.key])]
  | d t => cases t <;> rfl
  | _ => rfl

theorem findV_congr {h h' : Heap} {kk : KK} {p : V} {k : List T} (hh : ∀ κ, κ ∈ p.key → h' κ = h κ) : findV kk h' p k = findV kk h p k := by
  cases p with
  | map b => simp only [findV]; rw [hh b (by simp [V.key])]
  | d t => cases t <;> rfl
  | _ => rfl

theorem findV_key {h : Heap} {kk : KK} {p : V} {k : List T} {r : Option V} (hr : findV kk h p k = some r) : ∀ κ, κ ∈ p.key → h κ ≠ none := by
  intro κ hκ
  cases p <;> simp only [V.key] at hκ <;> first | (cases hκ; done) | skip
  all_goals simp only [findV] at hr
  all_goals first | (cases hr; done) | skip
  simp only [List.mem_singleton] at hκ
  subst hκ
  intro h0
  rw [h0] at hr
  cases hr

theorem put_if {h h' : Heap} {b : Nat} {x : Option Blk} {P : Nat → Prop} [DecidablePred P] (hp : ∀ κ, P κ ↔ κ = b) (κ : Nat) : (h'.put b x) κ = if P κ then (h.put b x) κ else h' κ := by
  by_cases e : κ = b
  · rw [if_pos ((hp κ).2 e)]; simp [Heap.put, e]
  · rw [if_neg (fun q => e ((hp κ).1 q))]; simp [Heap.put, e]

theorem local_op {op : DOp} {ρ : DOpnd → V} (hρ : ∀ u, ρ (.const u) = u) {h : Heap} {fr : Nat} {v : V} {h1 : Heap} (hev : evalOp op ρ h fr = some (v, h1)) : Local op ρ h fr v h1 := by
  cases op with
  | move x => exact .pure rfl rfl (by simp [DOp.cls]) (some (ρ x)) (fun _ => rfl) hev
  | pick c a b => exact .pure rfl rfl (by simp [DOp.cls]) _ (fun _ => rfl) hev
  | build z ps => exact .pure rfl rfl (by simp [DOp.cls]) _ (fun _ => rfl) hev
  | nilCheck x => exact .pure rfl rfl (by simp [DOp.cls]) _ (fun _ => rfl) hev
  | bin op k a x => exact .pure rfl rfl (by simp [DOp.cls]) _ (fun _ => rfl) hev
  | fail => cases hev
  | minmax mx a x => exact .pure rfl rfl (by simp [DOp.cls]) _ (fun _ => rfl) hev
  | un op x => exact .pure rfl rfl (by simp [DOp.cls]) _ (fun _ => rfl) hev
  | conv k x => exact .pure rfl rfl (by simp [DOp.cls]) _ (fun _ => rfl) hev
  | slice e x lo hi => exact .pure rfl rfl (by simp [DOp.cls]) _ (fun _ => rfl) hev
  | cutArr n x lo hi => exact .pure rfl rfl (by simp [DOp.cls]) _ (fun _ => rfl) hev
  | fieldAddr n x => exact .pure rfl rfl (by simp [DOp.cls]) _ (fun _ => rfl) hev
  | field f n x => exact .pure rfl rfl (by simp [DOp.cls]) _ (fun _ => rfl) hev
  | indexAddr a e x y => exact .pure rfl rfl (by simp [DOp.cls]) _ (fun _ => rfl) hev
  | index a x y => exact .pure rfl rfl (by simp [DOp.cls]) _ (fun _ => rfl) hev
  | extract x n => exact .pure rfl rfl (by simp [DOp.cls]) _ (fun _ => rfl) hev
  | makeFunc f caps => exact .pure rfl rfl (by simp [DOp.cls]) (some (.fn f (caps.map ρ))) (fun _ => rfl) hev
  | call => cases hev
  | callv => cases hev
  | entry x =>
    refine .read rfl (by simp [DOp.cls]) (fun h' => entryV h' (ρ x)) (fun _ => rfl) (fun u hu κ hκ => ?_) (fun h' hh => ?_) hev
    · simp only [DOp.keys] at hκ
      cases hx : ρ x with
      | it b mb =>
        rw [hx] at hu hκ
        cases mb with
        | none => simp [entryV] at hu
        | some mb =>
          simp only [V.key, List.mem_cons, List.not_mem_nil, or_false] at hκ
          simp only [entryV] at hu
          split at hu
          · rename_i hb
            split at hu
            · rename_i hm
              rcases hκ with rfl | rfl
              · rw [hb]; simp
              · rw [hm]; simp
            · cases hu
          · cases hu
      | _ => rw [hx] at hu; simp [entryV] at hu
    · simp only [DOp.keys] at hh
      cases hx : ρ x with
      | it b mb =>
        cases mb with
        | none => rfl
        | some mb =>
          rw [hx] at hh
          simp only [entryV]
          rw [hh b (by simp [V.key]), hh mb (by simp [V.key])]
      | _ => rfl
  | range x =>
    cases hx : ρ x with
    | d t =>
      cases t with
      | nilm => exact .makeRead rfl (by simp [DOp.cls]) (u := .it fr none) (b := .iter none 0 false) (fun κ hκ => by simp [DOp.keys, hx, V.key] at hκ) (fun h' _ => by simp [evalOp, hx, rangeV]) hev
      | _ => simp [evalOp, hx, rangeV] at hev
    | map b =>
      have hev' := hev
      simp only [evalOp, hx, rangeV] at hev'
      split at hev'
      · rename_i kvs hb
        exact .makeRead rfl (by simp [DOp.cls]) (u := .it fr (some b)) (b := .iter (some b) kvs.length false) (fun κ hκ => by simp [DOp.keys, hx, V.key] at hκ; subst hκ; rw [hb]; simp)
          (fun h' hh => by simp only [evalOp, hx, rangeV]; rw [hh b (by simp [DOp.keys, hx, V.key]), hb]) hev
      · cases hev'
    | _ => simp [evalOp, hx, rangeV] at hev
  | next x =>
    cases hx : ρ x with
    | it b mb =>
      cases mb with
      | none =>
        have hev' := hev
        simp only [evalOp, hx, nextV] at hev'
        split at hev'
        · rename_i hb
          simp only [Option.some.injEq, Prod.mk.injEq] at hev'
          obtain ⟨rfl, rfl⟩ := hev'
          exact .change rfl rfl (fun κ hκ => by simp [DOp.keys, hx, V.key] at hκ; subst hκ; rw [hb]; simp) id rfl
            (fun h' hh => by simp only [evalOp, hx, nextV]; rw [hh b (by simp [DOp.keys, hx, V.key]), hb]; rfl) (fun _ _ _ => rfl) (fun h' hh κ hκ => hh κ hκ)
        · cases hev'
      | some mb =>
        have hev' := hev
        simp only [evalOp, hx, nextV] at hev'
        split at hev'
        · rename_i mb' since seen hb
          split at hev'
          · rename_i kvs hm
            have ht : ∀ κ, κ ∈ (DOp.next x).keys ρ → h κ ≠ none := fun κ hκ => by
              simp [DOp.keys, hx, V.key] at hκ
              rcases hκ with rfl | rfl
              · rw [hb]; simp
              · rw [hm]; simp
            have hgo : ∀ h' : Heap, (∀ κ, κ ∈ (DOp.next x).keys ρ → h' κ = h κ) → h' b = h b ∧ h' mb = h mb := fun h' hh => ⟨hh b (by simp [DOp.keys, hx, V.key]), hh mb (by simp [DOp.keys, hx, V.key])⟩
            split at hev'
            · rename_i hcond
              split at hev'
              · simp only [Option.some.injEq, Prod.mk.injEq] at hev'
                obtain ⟨rfl, rfl⟩ := hev'
                exact .change rfl rfl ht id rfl (fun h' hh => by simp only [evalOp, hx, nextV]; rw [(hgo h' hh).1, (hgo h' hh).2, hb, hm]; simp only; rw [if_pos hcond]; rfl) (fun _ _ _ => rfl) (fun h' hh κ hκ => hh κ hκ)
              · rename_i e
                split at hev'
                · rename_i hs
                  simp only [Option.some.injEq, Prod.mk.injEq] at hev'
                  obtain ⟨rfl, rfl⟩ := hev'
                  exact .change rfl rfl ht id rfl (fun h' hh => by simp only [evalOp, hx, nextV]; rw [(hgo h' hh).1, (hgo h' hh).2, hb, hm]; simp only; rw [if_pos hcond]; (try simp only); rw [if_pos hs]; rfl) (fun _ _ _ => rfl) (fun h' hh κ hκ => hh κ hκ)
                · rename_i hs
                  simp only [Option.some.injEq, Prod.mk.injEq] at hev'
                  obtain ⟨rfl, rfl⟩ := hev'
                  refine .change rfl rfl ht (fun h' => h'.put b (some (.iter (some mb) since true))) rfl (fun h' hh => by simp only [evalOp, hx, nextV]; rw [(hgo h' hh).1, (hgo h' hh).2, hb, hm]; simp only; rw [if_pos hcond]; (try simp only); rw [if_neg hs]) (fun h' κ hκ => ?_) (fun h' hh κ hκ => ?_)
                  · have : κ ≠ b := fun e => hκ (by simp [DOp.keys, hx, V.key, e])
                    simp [Heap.put, this]
                  · simp only [Heap.put]
                    split
                    · rfl
                    · exact hh κ hκ
              · cases hev'
            · cases hev'
          · cases hev'
        · cases hev'
    | _ => simp [evalOp, hx, nextV] at hev
  | alloc z => exact .make rfl rfl (by simp [DOp.cls]) (fun _ => rfl) hev
  | box x =>
    by_cases ho : (ρ x).cells.all V.one = true
    · exact .make rfl rfl (by simp [DOp.cls]) (u := .ptr fr 0 0) (b := .row [(ρ x).cells]) (fun h' => by simp only [evalOp, if_pos ho]) hev
    · simp only [evalOp, if_neg ho] at hev; cases hev
  | buildSlice e l z ps =>
    cases hf : fillRows ρ e ps (List.replicate l z) with
    | none => simp only [evalOp, hf] at hev; cases hev
    | some es => exact .make rfl rfl (by simp [DOp.cls]) (u := .sl fr 0 l e) (b := .row es) (fun h' => by simp only [evalOp, hf]) hev
  | makeMap r =>
    by_cases ho : hintOk (r.map ρ) = true
    · exact .make rfl rfl (by simp [DOp.cls]) (u := .map fr) (b := .map []) (fun h' => by simp only [evalOp, if_pos ho]) hev
    · simp only [evalOp, if_neg ho] at hev; cases hev
  | makeSlice e b z l c =>
    simp only [evalOp, makeSliceV] at hev
    split at hev
    · rename_i n m hn hm
      split at hev
      · rename_i hc
        exact .make rfl rfl (by simp [DOp.cls]) (u := .sl fr 0 n.toNat e) (b := .row (List.replicate n.toNat z)) (fun h' => by simp only [evalOp, makeSliceV, hn, hm]; rw [if_pos hc])
          (by simp only [evalOp, makeSliceV, hn, hm]; rw [if_pos hc]; exact hev)
      · cases hev
    · cases hev
  | load n a =>
    refine .read rfl (by simp [DOp.cls]) (fun h' => loadV h' n (ρ a)) (fun _ => rfl) (fun u hu => ?_) (fun h' hh => ?_) hev
    · simp only [loadV] at hu
      cases hc : ptrCells h (ρ a) with
      | none => rw [hc] at hu; cases hu
      | some r => exact ptrCells_key hc
    · simp only [loadV]
      rw [ptrCells_congr hh]
  | len k x =>
    cases k with
    | map =>
      refine .read rfl (by simp [DOp.cls]) (fun h' => lenV h' .map (ρ x)) (fun _ => rfl) (fun u hu κ hκ => ?_) (fun h' hh => ?_) hev
      · simp only [DOp.keys] at hκ
        cases hx : ρ x with
        | map b =>
          rw [hx] at hu hκ
          simp only [V.key, List.mem_singleton] at hκ
          subst hκ
          intro h0
          simp only [lenV, h0] at hu
          cases hu
        | ptr b i j => rw [hx] at hu; simp [lenV] at hu
        | sl b o l z => rw [hx] at hu; simp [lenV] at hu
        | it b mb => rw [hx] at hu; simp [lenV] at hu
        | _ => rw [hx] at hκ; cases hκ
      · simp only [DOp.keys] at hh
        cases hx : ρ x with
        | map b => rw [hx] at hh; simp only [lenV]; rw [hh b (by simp [V.key])]
        | d t => cases t <;> rfl
        | _ => rfl
    | arr n => exact .pure rfl rfl (by simp [DOp.cls]) (lenV Heap.none (.arr n) (ρ x)) (fun h' => by simp only [evalOp, lenV]) hev
    | str =>
      refine .pure rfl rfl (by simp [DOp.cls]) (lenV Heap.none .str (ρ x)) (fun h' => ?_) hev
      simp only [evalOp]
      cases ρ x with
      | d t => cases t <;> rfl
      | _ => rfl
    | slc =>
      refine .pure rfl rfl (by simp [DOp.cls]) (lenV Heap.none .slc (ρ x)) (fun h' => ?_) hev
      simp only [evalOp]
      cases ρ x with
      | d t => cases t <;> rfl
      | _ => rfl
  | lookup kk z ok m k =>
    refine .read rfl (by simp [DOp.cls]) (fun h' => lookupV kk h' z ok (ρ m) (ρ k)) (fun _ => rfl) (fun u hu => ?_) (fun h' hh => ?_) hev
    · simp only [lookupV] at hu
      cases hk : keyCells kk (ρ k) with
      | none => rw [hk] at hu; cases hu
      | some ts =>
        rw [hk] at hu
        cases hf : findV kk h (ρ m) ts with
        | none => simp only [hf] at hu; cases hu
        | some r => exact findV_key hf
    · simp only [lookupV]
      cases hk : keyCells kk (ρ k) with
      | none => rfl
      | some ts => simp only; rw [findV_congr hh]
  | store n a x =>
    simp only [evalOp, setH] at hev
    split at hev
    · rename_i h2 hs
      simp only [Option.some.injEq, Prod.mk.injEq] at hev
      obtain ⟨rfl, rfl⟩ := hev
      unfold storeV at hs
      split at hs
      · rename_i b i j hp
        split at hs
        · rename_i es hh
          split at hs
          · rename_i cs hcs
            split at hs
            · rename_i hc
              cases hs
              have hkey : (DOp.store n a x).keys ρ = [b] := by simp [DOp.keys, hp, V.key]
              have hw : ∀ κ, (DOp.store n a x).writes ρ fr κ ↔ κ = b := fun κ => by simp [DOp.writes, hkey, DOp.makes, DOp.cls]
              refine ⟨fun κ hκ => ?_, fun κ hκ => ?_, fun h' _ hh' => ⟨_, ?_, fun κ => put_if hw κ⟩⟩
              · rw [hkey] at hκ; simp only [List.mem_singleton] at hκ; subst hκ; simp [hh]
              · rw [hw] at hκ; simp [Heap.put, hκ]
              · have hb : h' b = h b := hh' b (by rw [hkey]; simp)
                simp only [evalOp, storeV, hp, hb, hh, hcs, setH]
                rw [if_pos hc]
            · cases hs
          · cases hs
        · cases hs
      · cases hs
    · cases hev
  | mapUpdate kk m k x =>
    simp only [evalOp, setH] at hev
    split at hev
    · rename_i h2 hs
      simp only [Option.some.injEq, Prod.mk.injEq] at hev
      obtain ⟨rfl, rfl⟩ := hev
      unfold mapUpdateV at hs
      split at hs
      · rename_i b ts hp hk
        split at hs
        · rename_i kvs hh
          split at hs
          · rename_i kvs' hset
            cases hs
            have hkey : (DOp.mapUpdate kk m k x).keys ρ = [b] := by simp [DOp.keys, hp, V.key]
            have hw : ∀ κ, (DOp.mapUpdate kk m k x).writes ρ fr κ ↔ κ = b := fun κ => by simp [DOp.writes, hkey, DOp.makes, DOp.cls]
            refine ⟨fun κ hκ => ?_, fun κ hκ => ?_, fun h' _ hh' => ⟨_, ?_, fun κ => put_if hw κ⟩⟩
            · rw [hkey] at hκ; simp only [List.mem_singleton] at hκ; subst hκ; simp [hh]
            · rw [hw] at hκ; simp [Heap.put, hκ]
            · have hb : h' b = h b := hh' b (by rw [hkey]; simp)
              simp only [evalOp, mapUpdateV, hp, hk, hb, hh, hset, setH]
          · cases hs
        · cases hs
      · cases hs
    · cases hev
  | append e b z s x =>
    simp only [evalOp, appendV] at hev
    split at hev
    · rename_i xs hxs
      have hxk := slElems_key hxs
      have hkeys : (DOp.append e b z s x).keys ρ = (ρ s).key ++ (ρ x).key := rfl
      have hsame : ∀ h', (∀ κ, κ ∈ (DOp.append e b z s x).keys ρ → h' κ = h κ) → slElems h' e (ρ x) = some xs := fun h' hh' => by
        rw [slElems_congr (h := h) (fun κ hκ => hh' κ (by rw [hkeys]; exact List.mem_append_right _ hκ))]; exact hxs
      split at hev
      · rename_i hs
        have hkey : (DOp.append e b z s x).keys ρ = (ρ x).key := by simp [DOp.keys, hs, V.key]
        split at hev
        · rename_i h0
          cases hev
          refine ⟨fun κ hκ => hxk κ (by rw [← hkey]; exact hκ), fun κ _ => rfl, fun h' hfr hh' => ⟨h', ?_, fun κ => ?_⟩⟩
          · simp only [evalOp, appendV, hsame h' hh', hs]; rw [if_pos h0]
          · by_cases hw : (DOp.append e b z s x).writes ρ fr κ
            · rw [if_pos hw]
              rcases hw with ⟨rfl, _⟩ | ⟨_, hκ⟩
              · exact hfr
              · exact hh' κ hκ
            · rw [if_neg hw]
        · split at hev
          · rename_i h0 hb
            cases hev
            refine ⟨fun κ hκ => hxk κ (by rw [← hkey]; exact hκ), fun κ hκ => ?_, fun h' hfr hh' => ⟨h'.put fr (some (.row xs)), ?_, fun κ => ?_⟩⟩
            · have : κ ≠ fr := fun e => hκ (.inl ⟨e, rfl⟩)
              simp [Heap.put, this]
            · simp only [evalOp, appendV, hsame h' hh', hs]; rw [if_neg h0, if_pos hb]
            · by_cases e1 : κ = fr
              · rw [if_pos (.inl ⟨e1, rfl⟩)]; simp [Heap.put, e1]
              · by_cases hw : (DOp.append e b z s x).writes ρ fr κ
                · rw [if_pos hw]
                  rcases hw with ⟨e2, _⟩ | ⟨_, hκ⟩
                  · exact absurd e2 e1
                  · simp [Heap.put, e1, hh' κ hκ]
                · rw [if_neg hw]; simp [Heap.put, e1]
          · cases hev
      · rename_i b' off len zz hs
        split at hev
        · rename_i es hh
          split at hev
          · rename_i hc
            cases hev
            have hb' : b' ∈ (DOp.append e b z s x).keys ρ := by rw [hkeys, hs]; simp [V.key]
            have hcls : (DOp.append e b z s x).cls = 3 := by
              cases s with
              | tmp t => rfl
              | const u => rw [hρ] at hs; subst hs; rfl
            refine ⟨fun κ hκ => ?_, fun κ hκ => ?_, fun h' hfr hh' => ⟨(h'.put b' none).put fr (some (.row ((es.drop off).take len ++ xs))), ?_, fun κ => ?_⟩⟩
            · rw [hkeys] at hκ
              rcases List.mem_append.1 hκ with hκ | hκ
              · rw [hs] at hκ; simp only [V.key, List.mem_singleton] at hκ; subst hκ; simp [hh]
              · exact hxk κ hκ
            · have e1 : κ ≠ fr := fun e => hκ (.inl ⟨e, rfl⟩)
              have e2 : κ ≠ b' := fun e => hκ (.inr ⟨hcls, by rw [e]; exact hb'⟩)
              simp [Heap.put, e1, e2]
            · simp only [evalOp, appendV, hsame h' hh', hs, hh' b' hb', hh]; rw [if_pos hc]
            · by_cases e1 : κ = fr
              · rw [if_pos (.inl ⟨e1, rfl⟩)]; simp [Heap.put, e1]
              · by_cases e2 : κ = b'
                · rw [if_pos (.inr ⟨hcls, by rw [e2]; exact hb'⟩)]; simp [Heap.put, e2]
                · by_cases hw : (DOp.append e b z s x).writes ρ fr κ
                  · rw [if_pos hw]
                    rcases hw with ⟨e3, _⟩ | ⟨_, hκ⟩
                    · exact absurd e3 e1
                    · simp [Heap.put, e1, e2, hh' κ hκ]
                  · rw [if_neg hw]; simp [Heap.put, e1, e2]
          · cases hev
        · cases hev
      · cases hev
    · cases hev

end Go.Dv
