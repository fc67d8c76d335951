/- Regions at whatever order their edges allow come to what the text's order comes to. No condition. -/
import Derived.Test.YtjnllnigogpagadDvQ
namespace Go.Dv

theorem step_tame {cl : Caller} (ht : CallTame cl) {fr : Nat} {d : DOper} {s s' : St} (hs : stepOp cl fr d s = some s') :
    s.nx ≤ s'.nx ∧ ∀ id, s.hp id = none → id ≠ fr → ¬ (s.nx ≤ id ∧ id < s'.nx) → s'.hp id = none := by
  unfold stepOp at hs
  by_cases hw : wanted d.guard s.tm = true
  · rw [if_pos hw] at hs
    cases hdop : d.op with
    | call mode f args =>
      rw [hdop] at hs
      simp only at hs
      split at hs
      · split at hs
        · rename_i hc
          cases hs
          exact ⟨(ht _ _ _ _ _ _ _ hc).1, fun id h0 _ hn => (ht _ _ _ _ _ _ _ hc).2 id h0 hn⟩
        · cases hs
      · split at hs
        · cases hs; exact ⟨Nat.le_refl _, fun id h0 _ _ => h0⟩
        · cases hs
    | callv x args =>
      rw [hdop] at hs
      simp only at hs
      split at hs
      · split at hs
        · rename_i hc
          cases hs
          exact ⟨(ht _ _ _ _ _ _ _ hc).1, fun id h0 _ hn => (ht _ _ _ _ _ _ _ hc).2 id h0 hn⟩
        · cases hs
      · split at hs
        · rename_i hc
          cases hs
          exact ⟨(ht _ _ _ _ _ _ _ hc).1, fun id h0 _ hn => (ht _ _ _ _ _ _ _ hc).2 id h0 hn⟩
        · cases hs
      · cases hs
    | _ =>
      rw [hdop] at hs
      simp only at hs
      split at hs
      · rename_i v h' hev
        cases hs
        have L := local_op (fun u => rfl) hev
        refine ⟨Nat.le_refl _, fun id h0 hne _ => ?_⟩
        show h' id = none
        rw [L.keep id]
        · exact h0
        · rintro (⟨e, _⟩ | ⟨_, hk⟩)
          · exact hne e
          · exact L.there id hk h0
      · cases hs
  · rw [if_neg hw] at hs
    cases hs
    exact ⟨Nat.le_refl _, fun id h0 _ _ => h0⟩

theorem cls0_makes {op : DOp} (h : op.cls = 0) : op.makes = false := by
  cases op with
  | append e b z s x =>
    exfalso
    cases s with
    | tmp t => simp [DOp.cls] at h
    | const u =>
      cases u with
      | d t => cases t <;> simp [DOp.cls] at h
      | _ => simp [DOp.cls] at h
  | _ => simp_all [DOp.cls, DOp.makes]

theorem keys_cls {op : DOp} {ρ : DOpnd → V} (_hρ : ∀ u, ρ (.const u) = u) {κ : Nat} (h : κ ∈ op.keys ρ) : op.cls = 2 ∨ op.cls = 3 := by
  cases op with
  | append e b z s x =>
    cases s with
    | tmp t => exact .inr rfl
    | const u =>
      cases u with
      | d t => cases t <;> first | exact .inr rfl | exact .inl rfl
      | _ => exact .inr rfl
  | len k x => cases k <;> first | exact .inl rfl | (simp [DOp.keys] at h)
  | load => exact .inl rfl
  | lookup => exact .inl rfl
  | store => exact .inr rfl
  | mapUpdate => exact .inr rfl
  | range => exact .inl rfl
  | entry => exact .inl rfl
  | next => exact .inr rfl
  | _ => simp [DOp.keys] at h

theorem keys_slot {op : DOp} (hc : op.constsOk = true) {tm : List V} {κ : Nat} (h : κ ∈ op.keys (evalOpnd tm)) : ∃ t, κ ∈ (tm.getD t .undef).key := by
  have one : ∀ x : DOpnd, x.noKey = true → κ ∈ (evalOpnd tm x).key → ∃ t, κ ∈ (tm.getD t .undef).key := by
    intro x hx hk
    cases x with
    | tmp t => exact ⟨t, hk⟩
    | const u => simp only [DOpnd.noKey, List.isEmpty_iff] at hx; simp only [evalOpnd] at hk; rw [hx] at hk; cases hk
  cases op with
  | load n a => exact one a hc h
  | store n a x => exact one a hc h
  | lookup kk z ok m k => exact one m hc h
  | mapUpdate kk m k x => exact one m hc h
  | range x => exact one x hc h
  | next x => exact one x hc h
  | entry x => exact one x hc h
  | len k x => cases k <;> first | exact one x hc h | (simp [DOp.keys] at h)
  | append e b z s x =>
    simp only [DOp.constsOk, Bool.and_eq_true] at hc
    simp only [DOp.keys, List.mem_append] at h
    rcases h with h | h
    · exact one s hc.1 h
    · exact one x hc.2 h
  | _ => simp [DOp.keys] at h

theorem key_named {β : Nat → Option BI} {I : Nat → Prop} {w : World} {v : V} {x : Value} (h : VRel β I w v x) {κ : Nat} (hk : κ ∈ v.key) : β κ ≠ none := by
  cases h with
  | it b mb bi hb hm =>
    cases mb with
    | none => simp only [V.key, List.mem_singleton] at hk; subst hk; simp [hb]
    | some mb =>
      simp only [V.key, List.mem_cons, List.not_mem_nil, or_false] at hk
      rcases hk with rfl | rfl
      · simp [hb]
      · exact hm _ rfl
  | _ => simp only [V.key, List.mem_singleton] at hk <;> first | (cases hk; done) | (subst hk; simp [*])

theorem filter_lt {p q : Nat → Bool} : ∀ (l : List Nat), (∀ x, x ∈ l → p x = true → q x = true) → ∀ x, x ∈ l → q x = true → p x = false → (l.filter p).length < (l.filter q).length
  | [], _, x, hx, _, _ => by cases hx
  | y :: l, hpq, x, hx, hq, hp => by
    have hle : (l.filter p).length ≤ (l.filter q).length := by
      have key : ∀ l' : List Nat, (∀ x, x ∈ l' → p x = true → q x = true) → (l'.filter p).length ≤ (l'.filter q).length := by
        intro l' h'
        induction l' with
        | nil => simp
        | cons z l' ih =>
          have := ih (fun x hx => h' x (by simp [hx]))
          have hz := h' z (by simp)
          by_cases e : p z = true
          · simp [e, hz e, this]
          · simp only [List.filter_cons, e, Bool.false_eq_true, if_false]
            split
            · simp only [List.length_cons]; omega
            · exact this
      exact key l (fun x hx => hpq x (by simp [hx]))
    rcases List.mem_cons.1 hx with rfl | hx'
    · simp only [List.filter_cons, hp, Bool.false_eq_true, if_false, hq, if_true, List.length_cons]; omega
    · have ih := filter_lt l (fun x hx => hpq x (by simp [hx])) x hx' hq hp
      have hy := hpq y (by simp)
      by_cases e : p y = true
      · simp [e, hy e, ih]
      · simp only [List.filter_cons, e, Bool.false_eq_true, if_false]
        split
        · simp only [List.length_cons]; omega
        · exact ih

section
variable {P : Program} {en : Nat → Prop} {w0 : World} {I0 : Nat → Prop}

/-- What is known of two operations that no edge binds: which blocks each leaves to the other. -/
def PairFact (ki kk : List Nat) (mi mk : Mask) (ci ck bi bk : Nat) : Prop :=
  (ci = 5 → (∀ κ, κ ∈ kk → κ ∈ mi.1 ∨ (ck = 2 ∧ κ ∈ mi.2)) ∧ bk ∈ mi.1) ∧ (ck = 5 → (∀ κ, κ ∈ ki → κ ∈ mk.1 ∨ (ci = 2 ∧ κ ∈ mk.2)) ∧ bi ∈ mk.1) ∧ (ci ≠ 5 → ck ≠ 5 → disjoint ki kk = true)

/-- What the two orders share. -/
structure Plan (P : Program) (cl : Caller) (pure' : Nat → Bool) (ops : Array Oper) (base : Nat) (ds : List DOper) (T : Nat → St) (vv : Nat → V) (mm : Nat → Mask) : Prop where
  size : ops.size = ds.length
  rel : ∀ (k : Nat) (hk : k < ds.length) (o : Oper), ops[k]? = some o → OpRel P pure' ops o ds[k]
  eff : ∀ (k : Nat) (hk : k < ds.length), StepEff cl (mm k) (base + k) ds[k] (T k) (T (k + 1)) (vv k)
  edges : ∀ (k : Nat) (o : Oper), ops[k]? = some o → ∀ e ∈ o.after, Region.binds .any e = true → e.on < k
  consts : ∀ (k : Nat) (hk : k < ds.length), (ds[k]).op.constsOk = true
  free : ∀ (k j : Nat), k ≤ j → j < ds.length → (T k).hp (base + j) = none
  nxle : ∀ (k : Nat), k ≤ ds.length → base + ds.length ≤ (T k).nx
  pairs : ∀ (i k : Nat) (hi : i < k) (hk : k < ds.length), ((befs ops.toList [] ops.toList).getD k 0).testBit i = true ∨
    (slotsMeet (ds[i]'(by omega)) ds[k] = false ∧ clash (ds[i]'(by omega)).op (ds[k]).op = false ∧
      (mayClash (ds[i]'(by omega)).op (ds[k]).op = true → PairFact (stepKeys (ds[i]'(by omega)) (T i).tm) (stepKeys ds[k] (T k).tm) (mm i) (mm k) (ds[i]'(by omega)).op.cls (ds[k]).op.cls (base + i) (base + k)))

/-- The machine's state behind the operations of a set. -/
def curSt (ds : List DOper) (base : Nat) (T : Nat → St) (vv : Nat → V) (mm : Nat → Mask) (L : Nat → Bool) : St :=
  ⟨tmAt (T 0).tm (fun k => (ds.getD k default).dst) vv L ds.length,
   hpAt (T 0).hp T (fun k κ => decide (stepWrites (mm k) (ds.getD k default) (T k).tm (base + k) κ)) L ds.length,
   nxAt (T 0).nx T (fun k => wanted (ds.getD k default).guard (T k).tm && (ds.getD k default).op.cls == 5) L ds.length⟩

structure PInv (P : Program) (en : Nat → Prop) (w0 : World) (I0 : Nat → Prop) (ops : Array Oper) (base : Nat) (ds : List DOper) (T : Nat → St) (vv : Nat → V) (mm : Nat → Mask) (β₀ : Nat → Option BI) (I₀ : Nat → Prop) (w₀ : World)
    (L : Nat → Bool) (β : Nat → Option BI) (I : Nat → Prop) (a : Act) (w : World) : Prop where
  closed : Closed ops L
  mono : Mono β₀ I₀ w₀ β I w
  low : ∀ id, id < base → β id = β₀ id
  srel : SRel P en w0 I0 β I (curSt ds base T vv mm L) a w
  nxle : base + ds.length ≤ (curSt ds base T vv mm L).nx
  todo : ∀ k, k < ds.length → L k = false → β (base + k) = none
  done : ∀ (k : Nat) (hk : k < ds.length), L k = true → ∀ κ, κ ∈ stepKeys ds[k] (T k).tm → β κ ≠ none

theorem disjoint_not {a b : List Nat} (h : disjoint a b = true) {κ : Nat} (ha : κ ∈ a) (hb : κ ∈ b) : False := by
  simp only [disjoint, List.all_eq_true, Bool.not_eq_true', List.contains_eq_mem, decide_eq_false_iff_not] at h
  exact h κ ha hb

/-- One more operation, at whatever time its edges allow. -/
theorem play {cl : Caller} {pure' : Nat → Bool} {ops : Array Oper} {base : Nat} {ds : List DOper} {T : Nat → St} {vv : Nat → V} {mm : Nat → Mask} (pl : Plan P cl pure' ops base ds T vv mm)
    {β₀ : Nat → Option BI} {I₀ : Nat → Prop} {w₀ : World} {L : Nat → Bool} {β : Nat → Option BI} {I : Nat → Prop} {a : Act} {w : World} (inv : PInv P en w0 I0 ops base ds T vv mm β₀ I₀ w₀ L β I a w)
    {k : Nat} (hk : k < ds.length) (hL : L k = false) {o : Oper} (ho : ops[k]? = some o) (hpre : ∀ e ∈ o.after, Region.binds .any e = true → L e.on = true) :
    stepOp cl (base + k) ds[k] (curSt ds base T vv mm L) = some (curSt ds base T vv mm (setL L k)) ∧ wanted (ds[k]).guard (curSt ds base T vv mm L).tm = wanted (ds[k]).guard (T k).tm ∧
      ∀ κ, κ ∈ stepKeys ds[k] (T k).tm → β κ ≠ none := by
  have gd : ∀ m (hm : m < ds.length), ds.getD m default = ds[m] := fun m hm => by simp [hm]
  -- operations that are not bound to this one
  have r1 : ∀ m, m < k → L m = false → ((befs ops.toList [] ops.toList).getD k 0).testBit m = false := fun m hm hLm => by
    cases hb : ((befs ops.toList [] ops.toList).getD k 0).testBit m with
    | false => rfl
    | true => rw [bef_listed inv.closed k m o ho hpre hb] at hLm; cases hLm
  have r2 : ∀ m, k < m → m < ds.length → L m = true → ((befs ops.toList [] ops.toList).getD m 0).testBit k = false := fun m hm hm2 hLm => by
    cases hb : ((befs ops.toList [] ops.toList).getD m 0).testBit k with
    | false => rfl
    | true =>
      have hom : ops[m]? = some (ops[m]'(by rw [pl.size]; exact hm2)) := Array.getElem?_eq_getElem _
      rw [bef_listed inv.closed m k _ hom (inv.closed m _ hom hLm) hb] at hL
      cases hL
  have i1 : ∀ m (hm : m < k), L m = false → slotsMeet (ds[m]'(by omega)) ds[k] = false ∧ clash (ds[m]'(by omega)).op (ds[k]).op = false ∧
      (mayClash (ds[m]'(by omega)).op (ds[k]).op = true → PairFact (stepKeys (ds[m]'(by omega)) (T m).tm) (stepKeys ds[k] (T k).tm) (mm m) (mm k) (ds[m]'(by omega)).op.cls (ds[k]).op.cls (base + m) (base + k)) := fun m hm hLm => by
    rcases pl.pairs m k hm hk with h | h
    · rw [r1 m hm hLm] at h; cases h
    · exact h
  have i2 : ∀ m (hm : k < m) (hm2 : m < ds.length), L m = true → slotsMeet ds[k] ds[m] = false ∧ clash (ds[k]).op (ds[m]).op = false ∧
      (mayClash (ds[k]).op (ds[m]).op = true → PairFact (stepKeys ds[k] (T k).tm) (stepKeys ds[m] (T m).tm) (mm k) (mm m) (ds[k]).op.cls (ds[m]).op.cls (base + k) (base + m)) := fun m hm hm2 hLm => by
    rcases pl.pairs k m hm hm2 with h | h
    · rw [r2 m hm hm2 hLm] at h; cases h
    · exact h
  have E := pl.eff k hk
  -- slots
  have slot : ∀ t, (∀ m (hm : m < k), L m = false → (ds[m]'(by omega)).dst ≠ some t) → (∀ m (_ : k < m) (hm2 : m < ds.length), L m = true → (ds[m]).dst ≠ some t) →
      (curSt ds base T vv mm L).tm[t]? = (T k).tm[t]? := fun t h1 h2 => by
    refine tmAt_slot (k := k) (by omega) rfl (fun m hm => by rw [gd m hm]; exact (pl.eff m hm).tm) (fun m hm hLm => by rw [gd m (by omega)]; exact h1 m hm hLm) (fun m hm hm2 hLm => ?_)
    rw [gd m hm2]
    exact h2 m (by
      rcases Nat.lt_or_ge k m with h | h
      · exact h
      · have : m = k := by omega
        rw [this, hL] at hLm; cases hLm) hm2 hLm
  have uses : ∀ t, t ∈ (ds[k]).uses → (curSt ds base T vv mm L).tm[t]? = (T k).tm[t]? := fun t ht => slot t
    (fun m hm hLm e => by
      have := (i1 m hm hLm).1
      simp only [slotsMeet, e, Bool.or_eq_false_iff] at this
      have h1 := this.1.1
      simp only [List.contains_eq_mem, decide_eq_false_iff_not] at h1
      exact h1 ht)
    (fun m hm hm2 hLm e => by
      have := (i2 m hm hm2 hLm).1
      simp only [slotsMeet, e, Bool.or_eq_false_iff] at this
      have h1 := this.2
      simp only [List.contains_eq_mem, decide_eq_false_iff_not] at h1
      exact h1 ht)
  have hwant : wanted (ds[k]).guard (curSt ds base T vv mm L).tm = wanted (ds[k]).guard (T k).tm := wanted_congr fun t ht => uses t (by simp only [DOper.uses, List.mem_append]; exact .inr ht)
  -- the blocks that it is handed have names
  have named : ∀ κ, κ ∈ stepKeys ds[k] (T k).tm → β κ ≠ none := fun κ hκ => by
    simp only [stepKeys] at hκ
    split at hκ
    · obtain ⟨t, ht⟩ : ∃ t, κ ∈ ((curSt ds base T vv mm L).tm.getD t .undef).key := by
        have hk2 : κ ∈ (ds[k]).op.keys (evalOpnd (curSt ds base T vv mm L).tm) := by
          have : (ds[k]).op.keys (evalOpnd (T k).tm) = (ds[k]).op.keys (evalOpnd (curSt ds base T vv mm L).tm) := by
            have oc : ∀ t, t ∈ (ds[k]).op.uses → (T k).tm.getD t .undef = (curSt ds base T vv mm L).tm.getD t .undef := fun t ht => getD_of (uses t (by simp only [DOper.uses, List.mem_append]; exact .inl ht))
            generalize (ds[k]).op = op at oc
            have o1 : ∀ {x : DOpnd}, (∀ t, t ∈ x.slots → t ∈ op.uses) → evalOpnd (T k).tm x = evalOpnd (curSt ds base T vv mm L).tm x := fun hx => opnd_congr fun t ht => oc t (hx t ht)
            cases op with
            | load n x => simp only [DOp.keys, o1 (x := x) fun t ht => ht]
            | store n a x => simp only [DOp.keys, o1 (x := a) fun t ht => slots_of (by simp) ht]
            | lookup kk z ok m x => simp only [DOp.keys, o1 (x := m) fun t ht => slots_of (by simp) ht]
            | mapUpdate kk m x y => simp only [DOp.keys, o1 (x := m) fun t ht => slots_of (by simp) ht]
            | len q x => cases q <;> simp only [DOp.keys, o1 (x := x) fun t ht => ht]
            | range x => simp only [DOp.keys, o1 (x := x) fun t ht => ht]
            | next x => simp only [DOp.keys, o1 (x := x) fun t ht => ht]
            | entry x => simp only [DOp.keys, o1 (x := x) fun t ht => ht]
            | append e b z s x => simp only [DOp.keys, o1 (x := s) fun t ht => slots_of (by simp) ht, o1 (x := x) fun t ht => slots_of (by simp) ht]
            | _ => rfl
          rw [← this]; exact hκ
        exact keys_slot (pl.consts k hk) hk2
      exact key_named (inv.srel.tm.getD t) ht
    · cases hκ
  -- who writes what this one is handed
  have wkey : ∀ κ, κ ∈ stepKeys ds[k] (T k).tm → ∀ m (hm : m < ds.length), (m < k ∧ L m = false) ∨ (k < m ∧ L m = true) → ¬ stepWrites (mm m) ds[m] (T m).tm (base + m) κ := by
    rintro κ hκ m hm hcase ⟨hwm, hw⟩
    have hkk : (ds[k]).op.cls = 2 ∨ (ds[k]).op.cls = 3 := by
      simp only [stepKeys] at hκ
      split at hκ
      · exact keys_cls (fun _ => rfl) hκ
      · cases hκ
    rcases hw with (⟨e, _⟩ | ⟨h3, hkm⟩) | ⟨h5, hnm⟩
    · rcases hcase with ⟨h1, h2⟩ | ⟨h1, h2⟩
      · exact named κ hκ (by rw [e]; exact inv.todo m hm h2)
      · exact E.there κ hκ (by rw [e]; exact pl.free k m (by omega) hm)
    · have hkm' : κ ∈ stepKeys ds[m] (T m).tm := by simp only [stepKeys, hwm, if_true]; exact hkm
      rcases hcase with ⟨h1, h2⟩ | ⟨h1, h2⟩
      · exact disjoint_not (((i1 m h1 h2).2.2 (by rcases hkk with h | h <;> simp [mayClash, h3, h])).2.2 (by omega) (by omega)) hkm' hκ
      · exact disjoint_not (((i2 m h1 hm h2).2.2 (by rcases hkk with h | h <;> simp [mayClash, h3, h])).2.2 (by omega) (by omega)) hκ hkm'
    · rcases hcase with ⟨h1, h2⟩ | ⟨h1, h2⟩
      · exact ((((i1 m h1 h2).2.2 (by rcases hkk with h | h <;> simp [mayClash, h5, h])).1 h5).1 κ hκ).elim hnm.1 (fun h => hnm.2 h.2)
      · exact ((((i2 m h1 hm h2).2.2 (by rcases hkk with h | h <;> simp [mayClash, h5, h])).2.1 h5).1 κ hκ).elim hnm.1 (fun h => hnm.2 h.2)
  -- nobody writes beside one that may read all
  have hcl : ∀ m (hm : m < ds.length), (m < k ∧ L m = false) ∨ (k < m ∧ L m = true) → clash (ds[k]).op (ds[m]).op = false := by
    intro m hm hcase
    have hcl : clash (ds[k]).op (ds[m]).op = false ∨ clash (ds[m]).op (ds[k]).op = false := by
      rcases hcase with ⟨h1, h2⟩ | ⟨h1, h2⟩
      · exact .inr (i1 m h1 h2).2.1
      · exact .inl (i2 m h1 hm h2).2.1
    rcases hcl with h | h
    · exact h
    · simp only [clash, Bool.or_eq_false_iff] at h ⊢
      exact ⟨⟨⟨h.1.1.2, h.1.1.1⟩, h.2⟩, h.1.2⟩
  have noW4 : (ds[k]).op.cls = 4 → ∀ m (hm : m < ds.length), (m < k ∧ L m = false) ∨ (k < m ∧ L m = true) → ∀ κ, ¬ stepWrites (mm m) ds[m] (T m).tm (base + m) κ := by
    rintro h4 m hm hcase κ ⟨_, (⟨_, h⟩ | ⟨h, _⟩) | ⟨h, _⟩⟩
    · have := hcl m hm hcase; simp [clash, h4, h] at this
    · have := hcl m hm hcase; simp [clash, h4, h] at this
    · have := hcl m hm hcase; simp [clash, h4, h] at this
  have no5 : (ds[k]).op.cls = 5 → ∀ m (hm : m < ds.length), (m < k ∧ L m = false) ∨ (k < m ∧ L m = true) → (ds[m]).op.cls ≠ 5 := by
    intro h5 m hm hcase h
    have := hcl m hm hcase; simp [clash, h5, h] at this
  have noW5 : (ds[k]).op.cls = 5 → ∀ m (hm : m < ds.length), (m < k ∧ L m = false) ∨ (k < m ∧ L m = true) → ∀ κ, κ ∉ (mm k).1 → ¬ stepWrites (mm m) ds[m] (T m).tm (base + m) κ := by
    intro h5 m hm hcase κ hκ hwr
    obtain ⟨hwm, hwr⟩ := hwr
    have hne := no5 h5 m hm hcase
    have hfact : (ds[m]).op.cls ≠ 0 → (∀ κ, κ ∈ stepKeys ds[m] (T m).tm → κ ∈ (mm k).1 ∨ ((ds[m]).op.cls = 2 ∧ κ ∈ (mm k).2)) ∧ base + m ∈ (mm k).1 := by
      intro h0
      rcases hcase with ⟨h1, h2⟩ | ⟨h1, h2⟩
      · exact ((i1 m h1 h2).2.2 (by simp [mayClash, h5, h0])).2.1 h5
      · exact ((i2 m h1 hm h2).2.2 (by simp [mayClash, h5, h0])).1 h5
    rcases hwr with (⟨e, hmk⟩ | ⟨h3, hkm⟩) | ⟨h, _⟩
    · exact hκ (by rw [e]; exact (hfact (fun h0 => by rw [cls0_makes h0] at hmk; cases hmk)).2)
    · exact ((hfact (by omega)).1 κ (by simp only [stepKeys, hwm, if_true]; exact hkm)).elim hκ (fun h => by omega)
    · exact hne h
  have gt_of : ∀ m, k ≤ m → L m = true → k < m := fun m h h2 => by
    rcases Nat.lt_or_ge k m with h3 | h3
    · exact h3
    · have : m = k := by omega
      rw [this, hL] at h2; cases h2
  have hTk : ∀ κ m, m < ds.length → decide (stepWrites (mm m) (ds.getD m default) (T m).tm (base + m) κ) = false → (T (m + 1)).hp κ = (T m).hp κ := fun κ m hm h => by
    rw [gd m hm] at h
    exact (pl.eff m hm).keep κ (by simpa using h)
  have hpkey : ∀ κ, (∀ m (hm : m < ds.length), (m < k ∧ L m = false) ∨ (k < m ∧ L m = true) → ¬ stepWrites (mm m) ds[m] (T m).tm (base + m) κ) → (curSt ds base T vv mm L).hp κ = (T k).hp κ := fun κ h => by
    refine hpAt_key (k := k) (by omega) rfl (fun m hm h => hTk κ m hm h) (fun m hm hLm => ?_) (fun m hm hm2 hLm => ?_)
    · rw [gd m (by omega)]; simpa using h m (by omega) (.inl ⟨hm, hLm⟩)
    · rw [gd m hm2]; simpa using h m hm2 (.inr ⟨gt_of m hm hLm, hLm⟩)
  have hfr : (curSt ds base T vv mm L).hp (base + k) = (T k).hp (base + k) := by
    rw [pl.free k k (Nat.le_refl _) hk]
    cases hc : (curSt ds base T vv mm L).hp (base + k) with
    | none => rfl
    | some x =>
      obtain ⟨bi, hb, _⟩ := inv.srel.heap.live _ _ hc
      rw [inv.todo k hk hL] at hb; cases hb
  obtain ⟨hp'', hstep, hhp⟩ := E.again (curSt ds base T vv mm L).tm (curSt ds base T vv mm L).hp (curSt ds base T vv mm L).nx uses hfr (fun κ hκ => hpkey κ (wkey κ hκ))
    (fun _ h4 => funext fun κ => hpkey κ (fun m hm hc => noW4 h4 m hm hc κ))
    (fun _ h5 κ hκ => hpkey κ (fun m hm hc => noW5 h5 m hm hc κ hκ))
    (fun _ h5 => by
      refine nxAt_eq (k := k) (by omega) rfl (fun m hm h => ?_) (fun m hm hLm => ?_) (fun m hm hm2 hLm => ?_)
      · rw [gd m hm] at h
        refine (pl.eff m hm).nx (fun hc => ?_)
        simp [hc.1, hc.2] at h
      · rw [gd m (by omega)]
        have := no5 h5 m (by omega) (.inl ⟨hm, hLm⟩)
        simp [this]
      · rw [gd m hm2]
        have := no5 h5 m hm2 (.inr ⟨gt_of m hm hLm, hLm⟩)
        simp [this])
  refine ⟨?_, hwant, named⟩
  have hcur : curSt ds base T vv mm L = ⟨(curSt ds base T vv mm L).tm, (curSt ds base T vv mm L).hp, (curSt ds base T vv mm L).nx⟩ := rfl
  rw [hcur, hstep]
  congr 1
  have e1 : (curSt ds base T vv mm (setL L k)).tm = putSlot (curSt ds base T vv mm L).tm (ds[k]).dst (vv k) := by
    have := tmAt_set (t0 := (T 0).tm) (dst := fun k => (ds.getD k default).dst) (val := vv) (L := L) (k := k) (n := ds.length) hk hL (fun m hm hm2 hLm t ht => by
      rw [gd k hk] at ht
      rw [gd m hm2]
      intro e
      have := (i2 m hm hm2 hLm).1
      simp only [slotsMeet, ht, Bool.or_eq_false_iff] at this
      have h1 := this.1.2
      rw [e] at h1
      simp at h1)
    rw [gd k hk] at this
    exact this
  have e2 : (curSt ds base T vv mm (setL L k)).hp = hp'' := by
    funext κ
    rw [hhp κ]
    have := hpAt_set (h0 := (T 0).hp) (T := T) (W := fun k κ => decide (stepWrites (mm k) (ds.getD k default) (T k).tm (base + k) κ)) (L := L) (κ := κ) (k := k) (n := ds.length) hk hL (fun m hm hm2 hLm hWk => by
      rw [gd k hk] at hWk
      rw [gd m hm2]
      have hWk' : stepWrites (mm k) ds[k] (T k).tm (base + k) κ := by simpa using hWk
      simp only [decide_eq_false_iff_not]
      obtain ⟨hwk, hWk'⟩ := hWk'
      rcases hWk' with (⟨e, hmk⟩ | ⟨h3, hkk⟩) | ⟨h5, hnm⟩
      · rintro ⟨hwm, (⟨e', _⟩ | ⟨h3, hkm⟩) | ⟨h5, hnm⟩⟩
        · omega
        · have hkm' : κ ∈ stepKeys ds[m] (T m).tm := by simp only [stepKeys, hwm, if_true]; exact hkm
          exact inv.done m hm2 hLm κ hkm' (by rw [e]; exact inv.todo k hk hL)
        · have hk0 : (ds[k]).op.cls ≠ 0 := fun h => by rw [cls0_makes h] at hmk; cases hmk
          exact hnm.1 (by rw [e]; exact (((i2 m hm hm2 hLm).2.2 (by simp [mayClash, h5, hk0])).2.1 h5).2)
      · exact wkey κ (by simp only [stepKeys, hwk, if_true]; exact hkk) m hm2 (.inr ⟨hm, hLm⟩)
      · exact noW5 h5 m hm2 (.inr ⟨hm, hLm⟩) κ hnm.1)
    rw [gd k hk] at this
    rw [show (curSt ds base T vv mm (setL L k)).hp κ = _ from this]
    by_cases hW : stepWrites (mm k) ds[k] (T k).tm (base + k) κ
    · rw [if_pos (by simpa using hW), if_pos hW]
    · rw [if_neg (by simpa using hW), if_neg hW]; rfl
  have e3 : (curSt ds base T vv mm (setL L k)).nx = if wanted (ds[k]).guard (T k).tm = true ∧ (ds[k]).op.cls = 5 then (T (k + 1)).nx else (curSt ds base T vv mm L).nx := by
    have := nxAt_set (n0 := (T 0).nx) (T := T) (five := fun k => wanted (ds.getD k default).guard (T k).tm && (ds.getD k default).op.cls == 5) (L := L) (k := k) (n := ds.length) hk hL (fun m hm hm2 hLm h5 => by
      rw [gd k hk] at h5
      rw [gd m hm2]
      simp only [Bool.and_eq_true, beq_iff_eq] at h5
      have := no5 h5.2 m hm2 (.inr ⟨hm, hLm⟩)
      simp [this])
    rw [gd k hk] at this
    rw [show (curSt ds base T vv mm (setL L k)).nx = _ from this]
    by_cases h5 : wanted (ds[k]).guard (T k).tm = true ∧ (ds[k]).op.cls = 5
    · rw [if_pos h5, if_pos (by simp [h5.1, h5.2])]
    · rw [if_neg h5, if_neg (by simpa using h5)]; rfl
  have hcur2 : curSt ds base T vv mm (setL L k) = ⟨(curSt ds base T vv mm (setL L k)).tm, (curSt ds base T vv mm (setL L k)).hp, (curSt ds base T vv mm (setL L k)).nx⟩ := rfl
  rw [hcur2, e1, e2, e3]

end
end Go.Dv
