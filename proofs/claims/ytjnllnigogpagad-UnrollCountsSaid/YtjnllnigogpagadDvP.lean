/- Regions in the text's order; what a step leaves alone; how a step is played again. No condition. -/
import Derived.Test.YtjnllnigogpagadDvO
namespace Go.Dv

section
variable {P : Program} {en : Nat → Prop} {w0 : World} {I0 : Nat → Prop} {β : Nat → Option BI} {I : Nat → Prop} {w : World}

def RegPost (P : Program) (en : Nat → Prop) (w0 : World) (I0 : Nat → Prop) (β : Nat → Option BI) (I : Nat → Prop) (w : World) (lo : Nat) (s s' : St) (a' : Act) (w' : World) : Prop :=
  ∃ β' I', Mono β I w β' I' w' ∧ (∀ id, id < lo → β' id = β id) ∧ s.nx ≤ s'.nx ∧ SRel P en w0 I0 β' I' s' a' w'

theorem seq_sound {r : Option Nat} {n : Nat} {cl : Caller} (hcl : CallSound P cl) {pure' : Nat → Bool} {ops : Array Oper} {Q : Exit → Act → World → Prop} {lo : Nat} :
    ∀ (os : List Oper) (ds : List DOper) (fr0 : Nat) (s s' : St) (β : Nat → Option BI) (I : Nat → Prop) (a : Act) (w : World), os.length = ds.length →
      (∀ (i : Nat) (hi : i < os.length) (hi' : i < ds.length), OpRel P pure' ops os[i] ds[i]) → runOps cl fr0 ds s = some s' → SRel P en w0 I0 β I s a w → lo ≤ fr0 → lo ≤ s.nx →
      (∀ j, j < ds.length → fr0 + j < s.nx ∧ β (fr0 + j) = none) → (∀ a' w', RegPost P en w0 I0 β I w lo s s' a' w' → Q .normal a' w') → wpListIn (Fw r) n P ops Q os a w
  | [], [], fr0, s, s', β, I, a, w, _, _, hr, S, _, _, _, hQ => by
    cases hr
    exact hQ _ _ ⟨β, I, .refl _ _ _, fun _ _ => rfl, Nat.le_refl _, S⟩
  | [], _ :: _, _, _, _, _, _, _, _, hl, _, _, _, _, _, _, _ => by simp at hl
  | _ :: _, [], _, _, _, _, _, _, _, hl, _, _, _, _, _, _, _ => by simp at hl
  | o :: os, d :: ds, fr0, s, s', β, I, a, w, hl, ho, hr, S, hlo, hlo2, hf, hQ => by
    unfold runOps at hr
    split at hr
    · rename_i s1 hs1
      have ho0 := ho 0 (by simp) (by simp)
      simp only [List.getElem_cons_zero] at ho0
      have hf0 := hf 0 (by simp)
      simp only [Nat.add_zero] at hf0
      have rest : ∀ a' w', StepPost P en w0 I0 β I w fr0 s s1 a' w' → wpListIn (Fw r) n P ops Q os a' w' := by
        rintro a' w' ⟨β', I', m, hkeep, hle, S'⟩
        refine seq_sound (lo := lo) hcl os ds (fr0 + 1) s1 s' β' I' a' w' (by simpa using hl) (fun i hi hi' => by
          have := ho (i + 1) (by simpa using hi) (by simpa using hi')
          simpa using this) hr S' (by omega) (by omega) (fun j hj => ?_) (fun a'' w'' hp => ?_)
        · have := hf (j + 1) (by simpa using hj)
          rw [show fr0 + (j + 1) = fr0 + 1 + j by omega] at this
          exact ⟨by omega, by rw [hkeep (fr0 + 1 + j) this.1 (by omega)]; exact this.2⟩
        · obtain ⟨β'', I'', m', hk', hle', S''⟩ := hp
          exact hQ _ _ ⟨β'', I'', m.trans m', fun id hid => (hk' id hid).trans (hkeep id (by omega) (by omega)), Nat.le_trans hle hle', S''⟩
      obtain ⟨d0, hd0, hrel⟩ := ho0
      have hcomp := hd0
      simp only [compOper, Option.bind_eq_bind, Option.bind_eq_some_iff, Option.some.injEq] at hd0
      obtain ⟨op, hop, g, hg, rfl⟩ := hd0
      have hdg : d.guard = g ∧ d.dst = o.dst := by rcases hrel with rfl | ⟨f, args, _, rfl⟩ <;> exact ⟨rfl, rfl⟩
      have hw := wanted_eq S.tm hg
      unfold wpListIn
      by_cases hwant : wanted d.guard s.tm = true
      · rw [if_pos (by rw [hw, ← hdg.1]; exact hwant)]
        exact (step_wp hcl ⟨_, hcomp, hrel⟩ S hf0.2 hf0.1 hwant hs1 rest)
      · rw [if_neg (by rw [hw, ← hdg.1]; exact hwant)]
        unfold stepOp at hs1
        rw [if_neg hwant] at hs1
        cases hs1
        refine ⟨fun _ _ => trivial, rest _ _ ⟨β, I, .refl _ _ _, fun _ _ _ => rfl, Nat.le_refl _, S.heap, ?_, S.fresh⟩⟩
        rw [hdg.2]
        exact S.tm.put _ .undef
    · cases hr

end

/-! ### A step, told of any state that is alike -/

/-- A call takes new names for what it makes. -/
def CallTame (cl : Caller) : Prop :=
  ∀ f args h nx v h' nx', cl f args h nx = some (v, h', nx') → nx ≤ nx' ∧ ∀ id, h id = none → ¬ (nx ≤ id ∧ id < nx') → h' id = none

/-- A call that goes well does so where there are more blocks, and leaves them. -/
def CallFrame (cl : Caller) : Prop :=
  ∀ f args h nx v h' nx', cl f args h nx = some (v, h', nx') → ∀ (N : Nat → Prop) (h2 : Heap), (∀ κ, N κ → h κ = none ∧ κ < nx) → (∀ κ, ¬ N κ → h2 κ = h κ) →
    ∃ h2', cl f args h2 nx = some (v, h2', nx') ∧ (∀ κ, N κ → h2' κ = h2 κ) ∧ ∀ κ, ¬ N κ → h2' κ = h' κ

theorem mask_some {cl : Caller} (hf : CallFrame cl) {M : Mask} {f : Tgt} {args : List V} {h h' : Heap} {nx n : Nat} {v : V} (hc : maskCl cl M f args h nx = some (v, h', n)) :
    (∀ κ, κ ∈ M.1 ∨ κ ∈ M.2 → h' κ = h κ) ∧ ∀ hp', (∀ κ, κ ∉ M.1 → hp' κ = h κ) → ∃ h'', cl f args hp' nx = some (v, h'', n) ∧ (∀ κ, κ ∈ M.1 → h'' κ = hp' κ) ∧ ∀ κ, κ ∉ M.1 → h'' κ = h' κ := by
  unfold maskCl at hc
  split at hc
  · refine ⟨fun κ hκ => (by rcases hκ with hκ | hκ <;> cases hκ), fun hp' heq => ?_⟩
    have : hp' = h := funext fun κ => heq κ (by simp)
    subst this
    exact ⟨h', hc, fun κ hκ => (by cases hκ), fun κ _ => rfl⟩
  · simp only at hc
    split at hc
    · rename_i hall
      simp only [List.all_eq_true] at hall
      have hall' : ∀ κ, κ ∈ M.1 → κ < nx := fun κ hκ => by
        have := hall κ hκ
        simp only [Nat.blt, Nat.ble_eq] at this
        omega
      split at hc
      · rename_i v1 h1 n1 hcl
        split at hc
        · rename_i hkept
          cases hc
          refine ⟨fun κ hκ => ?_, fun hp' heq => ?_⟩
          · simp only [List.contains_eq_mem, decide_eq_true_eq]
            split
            · rfl
            · rename_i hn
              rcases hκ with hκ | hκ
              · exact absurd hκ hn
              · exact ((hkept κ hκ).resolve_left hn).2
          · obtain ⟨h2', e, on, off⟩ := hf _ _ _ _ _ _ _ hcl (fun κ => κ ∈ M.1) hp' (fun κ hκ => ⟨by simp [Heap.without, hκ], hall' κ hκ⟩) (fun κ hκ => by rw [heq κ hκ]; simp [Heap.without, hκ])
            exact ⟨h2', e, on, fun κ hκ => by rw [off κ hκ]; simp [hκ]⟩
        · cases hc
      · cases hc
    · cases hc

def stepWrites (M : Mask) (d : DOper) (tm : List V) (fr κ : Nat) : Prop := wanted d.guard tm = true ∧ (d.op.writes (evalOpnd tm) fr κ ∨ (d.op.cls = 5 ∧ κ ∉ M.1 ∧ κ ∉ M.2))

instance (M : Mask) (d : DOper) (tm : List V) (fr κ : Nat) : Decidable (stepWrites M d tm fr κ) := by unfold stepWrites; infer_instance

structure StepEff (cl : Caller) (M : Mask) (fr : Nat) (d : DOper) (s s' : St) (v : V) : Prop where
  tm : s'.tm = putSlot s.tm d.dst v
  keep : ∀ κ, ¬ stepWrites M d s.tm fr κ → s'.hp κ = s.hp κ
  nx : ¬ (wanted d.guard s.tm = true ∧ d.op.cls = 5) → s'.nx = s.nx
  there : ∀ κ, κ ∈ stepKeys d s.tm → s.hp κ ≠ none
  again : ∀ (tm' : List V) (hp' : Heap) (nx' : Nat), (∀ t, t ∈ d.uses → tm'[t]? = s.tm[t]?) → hp' fr = s.hp fr → (∀ κ, κ ∈ stepKeys d s.tm → hp' κ = s.hp κ) →
    (wanted d.guard s.tm = true → d.op.cls = 4 → hp' = s.hp) → (wanted d.guard s.tm = true → d.op.cls = 5 → ∀ κ, κ ∉ M.1 → hp' κ = s.hp κ) → (wanted d.guard s.tm = true → d.op.cls = 5 → nx' = s.nx) →
    ∃ hp'', stepOp cl fr d ⟨tm', hp', nx'⟩ = some ⟨putSlot tm' d.dst v, hp'', if wanted d.guard s.tm = true ∧ d.op.cls = 5 then s'.nx else nx'⟩ ∧
      ∀ κ, hp'' κ = if stepWrites M d s.tm fr κ then s'.hp κ else hp' κ

theorem cls_small (op : DOp) (h1 : ∀ m f args, op ≠ .call m f args) (h2 : ∀ x args, op ≠ .callv x args) : op.cls ≤ 3 := by
  cases op with
  | call m f args => exact absurd rfl (h1 _ _ _)
  | callv x args => exact absurd rfl (h2 _ _)
  | len k x => cases k <;> simp [DOp.cls]
  | append e b z s x =>
    cases s with
    | tmp t => simp [DOp.cls]
    | const u =>
      cases u with
      | d t => cases t <;> simp [DOp.cls]
      | _ => simp [DOp.cls]
  | _ => simp [DOp.cls]

theorem wanted_congr {g : Option (Nat × Bool)} {tm tm' : List V} (h : ∀ t, t ∈ guardUses g → tm'[t]? = tm[t]?) : wanted g tm' = wanted g tm := by
  cases g with
  | none => rfl
  | some p => obtain ⟨t, b⟩ := p; simp only [wanted]; rw [h t (by simp [guardUses])]

theorem getD_of {tm tm' : List V} {t : Nat} (h : tm'[t]? = tm[t]?) : tm.getD t .undef = tm'.getD t .undef := by
  simp only [List.getD_eq_getElem?_getD, h]

theorem step_eff {cl : Caller} (hf : CallFrame cl) {M : Mask} {fr : Nat} {d : DOper} {s s' : St} (hM : d.op.cls ≠ 5 → M = ([], [])) (hs : stepOp (maskCl cl M) fr d s = some s') : ∃ v, StepEff cl M fr d s s' v := by
  unfold stepOp at hs
  have wc : ∀ tm' : List V, (∀ t, t ∈ d.uses → tm'[t]? = s.tm[t]?) → wanted d.guard tm' = wanted d.guard s.tm := fun tm' h => wanted_congr fun t ht => h t (by simp only [DOper.uses, List.mem_append]; exact .inr ht)
  have oc : ∀ tm' : List V, (∀ t, t ∈ d.uses → tm'[t]? = s.tm[t]?) → ∀ t, t ∈ d.op.uses → s.tm.getD t .undef = tm'.getD t .undef := fun tm' h t ht => getD_of (h t (by simp only [DOper.uses, List.mem_append]; exact .inl ht))
  by_cases hw : wanted d.guard s.tm = true
  · rw [if_pos hw] at hs
    have call5 : ∀ (f : Tgt) (as : List V) (v : V) (h' : Heap) (n : Nat), d.op.cls = 5 → d.op.keys (evalOpnd s.tm) = [] → s' = ⟨putSlot s.tm d.dst v, h', n⟩ → maskCl cl M f as s.hp s.nx = some (v, h', n) →
        (∀ tm' hp' h'', (∀ t, t ∈ d.uses → tm'[t]? = s.tm[t]?) → cl f as hp' s.nx = some (v, h'', n) → stepOp cl fr d ⟨tm', hp', s.nx⟩ = some ⟨putSlot tm' d.dst v, h'', n⟩) → ∃ v, StepEff cl M fr d s s' v := by
      intro f as v h' n hc hk hs' hcall hag
      subst hs'
      obtain ⟨hon, hany⟩ := mask_some hf hcall
      refine ⟨v, rfl, fun κ hκ => ?_, fun h => absurd ⟨hw, hc⟩ h, fun κ hκ => ?_, fun tm' hp' nx' ht _ _ _ hfull hnx => ?_⟩
      · by_cases hm : κ ∈ M.1 ∨ κ ∈ M.2
        · exact hon κ hm
        · exact absurd ⟨hw, .inr ⟨hc, fun h => hm (.inl h), fun h => hm (.inr h)⟩⟩ hκ
      · simp only [stepKeys, hw, if_true, hk] at hκ; cases hκ
      · have e2 := hnx hw hc
        subst e2
        obtain ⟨h'', e, on, off⟩ := hany hp' (hfull hw hc)
        refine ⟨h'', by rw [hag tm' hp' h'' ht e, if_pos ⟨hw, hc⟩], fun κ => ?_⟩
        have nomk : d.op.makes = false ∧ d.op.cls ≠ 3 := by
          refine ⟨?_, by omega⟩
          cases hop : d.op with
          | call => rfl
          | callv => rfl
          | _ =>
            have := cls_small d.op (fun _ _ _ e => by rw [hop] at e; cases e) (fun _ _ e => by rw [hop] at e; cases e)
            omega
        by_cases hm : κ ∈ M.1
        · rw [if_neg]
          · exact on κ hm
          · rintro ⟨_, h | h⟩
            · rcases h with ⟨_, h⟩ | ⟨h, _⟩
              · rw [nomk.1] at h; cases h
              · exact nomk.2 h
            · exact h.2.1 hm
        · rw [off κ hm]
          by_cases hm2 : κ ∈ M.2
          · rw [if_neg]
            · rw [hon κ (.inr hm2), hfull hw hc κ hm]
            · rintro ⟨_, h | h⟩
              · rcases h with ⟨_, h⟩ | ⟨h, _⟩
                · rw [nomk.1] at h; cases h
                · exact nomk.2 h
              · exact h.2.2 hm2
          · rw [if_pos ⟨hw, .inr ⟨hc, hm, hm2⟩⟩]
    cases hdop : d.op with
    | call mode f args =>
      rw [hdop] at hs
      simp only at hs
      have ha : ∀ tm', (∀ t, t ∈ d.uses → tm'[t]? = s.tm[t]?) → args.map (evalOpnd tm') = args.map (evalOpnd s.tm) := fun tm' ht => (opnds_congr fun t h => oc tm' ht t (by rw [hdop]; exact h)).symm
      split at hs
      · rename_i hm
        split at hs
        · rename_i v h' n hcall
          refine call5 _ _ v h' n (by rw [hdop, hm]; rfl) (by rw [hdop]; rfl) (by cases hs; rfl) hcall (fun tm' hp' h'' ht e => ?_)
          unfold stepOp
          rw [if_pos (by rw [wc tm' ht]; exact hw), hdop]
          simp only [hm, if_true, ha tm' ht, e]
        · cases hs
      · rename_i hm
        split at hs
        · rename_i v hp
          cases hs
          have hcls : d.op.cls ≠ 5 ∧ d.op.cls ≠ 3 ∧ d.op.makes = false := by
            rw [hdop]
            match mode, hm with
            | 1, _ => simp [DOp.cls, DOp.makes]
            | n + 2, _ => exact ⟨(by show (0 : Nat) ≠ 5; omega), (by show (0 : Nat) ≠ 3; omega), rfl⟩
          have hk : d.op.keys (evalOpnd s.tm) = [] := by rw [hdop]; rfl
          obtain ⟨h5, h3, hmk⟩ := hcls
          have hM0 := hM h5
          subst hM0
          have hnw : ∀ κ, ¬ stepWrites ([], []) d s.tm fr κ := by
            rintro κ ⟨_, (⟨_, h⟩ | ⟨h, _⟩) | ⟨h, _⟩⟩
            · rw [hmk] at h; cases h
            · exact h3 h
            · exact h5 h
          refine ⟨v, rfl, fun κ _ => rfl, fun _ => rfl, fun κ hκ => ?_, fun tm' hp' nx' ht _ _ hfull _ _ => ⟨hp', ?_, fun κ => by rw [if_neg (hnw κ)]⟩⟩
          · simp only [stepKeys, hw, if_true, hk] at hκ; cases hκ
          · have hpp : callPure cl mode hp' f (args.map (evalOpnd s.tm)) = some v := by
              simp only [maskCl] at hp
              unfold callPure at hp ⊢
              split
              · rename_i hcl; rw [if_pos hcl] at hp; exact hp
              · rename_i hcl
                rw [if_neg hcl] at hp
                split
                · rename_i hm1
                  have := hfull hw (by rw [hdop, hm1]; simp [DOp.cls])
                  subst this
                  rw [if_pos hm1] at hp
                  exact hp
                · rename_i hm1; rw [if_neg hm1] at hp; cases hp
            unfold stepOp
            rw [if_pos (by rw [wc tm' ht]; exact hw), hdop]
            simp only [hm, if_false, ha tm' ht, hpp]
            rw [if_neg (fun hc => h5 (by rw [hdop]; exact hc.2))]
        · cases hs
    | callv x args =>
      rw [hdop] at hs
      simp only at hs
      have hx : ∀ tm', (∀ t, t ∈ d.uses → tm'[t]? = s.tm[t]?) → evalOpnd tm' x = evalOpnd s.tm x := fun tm' ht => (opnd_congr fun t h => oc tm' ht t (by rw [hdop]; exact slots_of (by simp) h)).symm
      have ha : ∀ tm', (∀ t, t ∈ d.uses → tm'[t]? = s.tm[t]?) → args.map (evalOpnd tm') = args.map (evalOpnd s.tm) := fun tm' ht => (opnds_congr fun t h => oc tm' ht t (by
        rw [hdop]; simp only [DOp.uses, slotsOf, List.flatMap_cons, List.mem_append] at h ⊢; exact .inr h)).symm
      split at hs
      · rename_i f caps hfn
        split at hs
        · rename_i v h' n hcall
          refine call5 _ _ v h' n (by rw [hdop]; rfl) (by rw [hdop]; rfl) (by cases hs; rfl) hcall (fun tm' hp' h'' ht e => ?_)
          unfold stepOp
          rw [if_pos (by rw [wc tm' ht]; exact hw), hdop]
          simp only [hx tm' ht, hfn, ha tm' ht, e]
        · cases hs
      · rename_i b hfn
        split at hs
        · rename_i v h' n hcall
          refine call5 _ _ v h' n (by rw [hdop]; rfl) (by rw [hdop]; rfl) (by cases hs; rfl) hcall (fun tm' hp' h'' ht e => ?_)
          unfold stepOp
          rw [if_pos (by rw [wc tm' ht]; exact hw), hdop]
          simp only [hx tm' ht, hfn, ha tm' ht, e]
        · cases hs
      · cases hs
    | _ =>
      have hsm : d.op.cls ≤ 3 := cls_small _ (fun _ _ _ e => by rw [hdop] at e; cases e) (fun _ _ e => by rw [hdop] at e; cases e)
      have hn5 : d.op.cls ≠ 5 := by omega
      have hn4 : ¬ 4 ≤ d.op.cls := by omega
      rw [hdop] at hs hn5 hn4
      simp only at hs
      split at hs
      · rename_i v h' hev
        cases hs
        have L := local_op (fun u => rfl) hev
        have hwr : ∀ κ, stepWrites M d s.tm fr κ ↔ d.op.writes (evalOpnd s.tm) fr κ := fun κ => by
          rw [hdop]
          unfold stepWrites
          rw [hdop]
          exact ⟨fun h => h.2.resolve_right (fun h => hn5 h.1), fun h => ⟨hw, .inl h⟩⟩
        have hks : stepKeys d s.tm = d.op.keys (evalOpnd s.tm) := by simp only [stepKeys, hw, if_true]
        refine ⟨v, rfl, fun κ hκ => L.keep κ (fun h => hκ ((hwr κ).2 (by rw [hdop]; exact h))), fun _ => rfl, fun κ hκ => L.there κ (by rw [hks, hdop] at hκ; exact hκ), fun tm' hp' nx' ht hfr hkk _ _ _ => ?_⟩
        obtain ⟨h1', he, hh⟩ := L.other hp' hfr (fun κ hκ => hkk κ (by rw [hks, hdop]; exact hκ))
        refine ⟨h1', ?_, fun κ => ?_⟩
        · unfold stepOp
          rw [if_pos (by rw [wc tm' ht]; exact hw), hdop]
          have hev' : evalOp d.op (evalOpnd tm') hp' fr = some (v, h1') := by
            rw [← evalOp_congr (op := d.op) (tm := s.tm) (tm' := tm') (oc tm' ht) hp' fr, hdop]
            exact he
          rw [hdop] at hev'
          simp only [hev']
          rw [if_neg (fun hc => hn5 hc.2)]
        · rw [hh κ]
          by_cases hwk : d.op.writes (evalOpnd s.tm) fr κ
          · rw [if_pos (by rw [hdop] at hwk; exact hwk), if_pos ((hwr κ).2 hwk)]
          · rw [if_neg (by rw [hdop] at hwk; exact hwk), if_neg (fun h => hwk ((hwr κ).1 h))]
      · cases hs
  · rw [if_neg hw] at hs
    cases hs
    have hnw : ∀ κ, ¬ stepWrites M d s.tm fr κ := fun κ h => hw h.1
    refine ⟨.undef, rfl, fun κ _ => rfl, fun _ => rfl, fun κ hκ => ?_, fun tm' hp' nx' ht _ _ _ _ _ => ⟨hp', ?_, fun κ => by rw [if_neg (hnw κ)]⟩⟩
    · simp only [stepKeys, hw, if_false, Bool.false_eq_true] at hκ; cases hκ
    · unfold stepOp
      rw [if_neg (by rw [wc tm' ht]; exact hw), if_neg (fun h => hw h.1)]

end Go.Dv
