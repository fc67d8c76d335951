/- Each operation of the D machine that calls no function is what the model's operation does. No condition. -/
import Derived.Test.YtjnllnigogpagadDvJ
namespace Go.Dv

section
variable {P : Program} {w0 : World} {I0 : Nat → Prop} {β : Nat → Option BI} {I : Nat → Prop} {w : World} {h : Heap} {fr : Nat}

theorem mapM_get {α γ : Type} {f : α → Option γ} : ∀ {l : List α} {r : List γ}, l.mapM f = some r → ∀ i : Nat, r[i]? = (l[i]?).bind f
  | [], r, hm, i => by simp at hm; subst hm; simp
  | x :: l, r, hm, i => by
    simp only [List.mapM_cons, Option.bind_eq_bind, Option.pure_def, Option.bind_eq_some_iff, Option.some.injEq] at hm
    obtain ⟨y, hy, ys, hys, rfl⟩ := hm
    cases i with
    | zero => simp [hy]
    | succ i => simpa using mapM_get hys i

theorem compParts_ok {t : TypeId} : ∀ {parts : List (Nat × Operand)} {ps : List (Nat × Nat × DOpnd)}, compParts P t parts = some ps →
    parts.length = ps.length ∧ ∀ (i : Nat) (hi : i < ps.length) (hi' : i < parts.length), placeOf P t (parts[i]).1 = some ((ps[i]).1, (ps[i]).2.1) ∧ compOpnd (parts[i]).2 = some (ps[i]).2.2
  | [], ps, hc => by cases hc; exact ⟨rfl, fun i hi => absurd hi (by simp)⟩
  | (k, x) :: rest, ps, hc => by
    simp only [compParts, Option.bind_eq_bind, Option.bind_eq_some_iff, Option.some.injEq] at hc
    obtain ⟨y, hy, p, hp, r, hr, rfl⟩ := hc
    obtain ⟨hl, ih⟩ := compParts_ok hr
    refine ⟨by simp [hl], fun i hi hi' => ?_⟩
    cases i with
    | zero => exact ⟨hp, hy⟩
    | succ i => simpa using ih i (by simpa using hi) (by simpa using hi')

theorem compSliceParts_ok : ∀ {parts : List (Nat × Operand)} {ps : List (Nat × DOpnd)}, compSliceParts parts = some ps →
    parts.length = ps.length ∧ ∀ (i : Nat) (hi : i < ps.length) (hi' : i < parts.length), (parts[i]).1 = (ps[i]).1 ∧ compOpnd (parts[i]).2 = some (ps[i]).2
  | [], ps, hc => by cases hc; exact ⟨rfl, fun i hi => absurd hi (by simp)⟩
  | (k, x) :: rest, ps, hc => by
    simp only [compSliceParts, Option.bind_eq_bind, Option.bind_eq_some_iff, Option.some.injEq] at hc
    obtain ⟨y, hy, r, hr, rfl⟩ := hc
    obtain ⟨hl, ih⟩ := compSliceParts_ok hr
    refine ⟨by simp [hl], fun i hi hi' => ?_⟩
    cases i with
    | zero => exact ⟨rfl, hy⟩
    | succ i => simpa using ih i (by simpa using hi) (by simpa using hi')

theorem compOpnds_ok : ∀ {xs : List Operand} {ys : List DOpnd}, compOpnds xs = some ys →
    xs.length = ys.length ∧ ∀ (i : Nat) (hi : i < ys.length) (hi' : i < xs.length), compOpnd xs[i] = some ys[i]
  | [], ys, hc => by cases hc; exact ⟨rfl, fun i hi => absurd hi (by simp)⟩
  | x :: rest, ys, hc => by
    simp only [compOpnds, Option.bind_eq_bind, Option.bind_eq_some_iff, Option.some.injEq] at hc
    obtain ⟨y, hy, r, hr, rfl⟩ := hc
    obtain ⟨hl, ih⟩ := compOpnds_ok hr
    refine ⟨by simp [hl], fun i hi hi' => ?_⟩
    cases i with
    | zero => exact hy
    | succ i => simpa using ih i (by simpa using hi) (by simpa using hi')

theorem sim_build {t : TypeId} {z : V} {ρ : DOpnd → V} {ρA : Operand → Value} {parts : Array (Nat × Operand)} {ps : List (Nat × Nat × DOpnd)} {v : V} {h' : Heap}
    (hρ : ∀ x y, compOpnd x = some y → VRel β I w (ρ y) (ρA x)) (hz : zeroTy P t = some z) (hp : compParts P t parts.toList = some ps)
    (ht : (∃ fields pl, P.underlying t = some (.struct fields) ∧ fields.toList.mapM (fun f => (P.info? f.type).map fun i => (f.offset, i.size)) = some pl) ∨ ∃ n e m, P.underlying t = some (.array n e) ∧ szTy P e = some m)
    (R : Rel P w0 I0 β I h w) (hev : keepH h ((fillV ρ ps z.cells).map .agg) = some (v, h')) :
    Sim P w0 I0 β I w h' fr v (do pure (.value (← Instr.build t (parts.map fun p => (p.1, ρA p.2))))) := by
  obtain ⟨hfv, rfl⟩ := keepH_some hev
  simp only [Option.map_eq_some_iff] at hfv
  obtain ⟨cs', hfill, rfl⟩ := hfv
  obtain ⟨hlen, hall⟩ := compParts_ok hp
  unfold zeroTy at hz
  cases hi : P.info? t with
  | none => rw [hi] at hz; cases hz
  | some it =>
    rw [hi] at hz
    cases hiz : it.zero with
    | none => simp only [hiz] at hz; cases hz
    | some zx =>
      simp only [hiz] at hz
      have hzc := (const_rel (β := β) (I := I) (w := w) hz).cellsRel
      have hvals : ∀ (i : Nat) (hi : i < ps.length) (hi' : i < ((parts.map fun p => (p.1, ρA p.2)).toList).length),
          placeOf P t (((parts.map fun p => (p.1, ρA p.2)).toList)[i]).1 = some ((ps[i]).1, (ps[i]).2.1) ∧ VRel β I w (ρ (ps[i]).2.2) (((parts.map fun p => (p.1, ρA p.2)).toList)[i]).2 := by
        intro i hi hi'
        have hi2 : i < parts.toList.length := by omega
        obtain ⟨h1, h2⟩ := hall i hi hi2
        have : (parts.map fun p => (p.1, ρA p.2)).toList[i] = ((parts.toList[i]).1, ρA (parts.toList[i]).2) := by simp
        rw [this]
        exact ⟨h1, hρ _ _ h2⟩
      obtain ⟨cells', hf', hcr⟩ := fillV_rel (place := placeOf P t) (by simp; simpa using hlen) hvals hzc hfill
      have hb : P.built t (parts.map fun p => (p.1, ρA p.2)).toList = some cells' := by
        unfold Program.built
        rcases ht with ⟨fields, pl, hu, hm⟩ | ⟨n, e, m, hu, hm⟩
        · simp only [hi, hu, hiz, hm]
          have : (fun x => pl.toArray[x]?) = placeOf P t := by
            funext i
            simp only [placeOf, hu, List.getElem?_toArray, mapM_get hm i, Array.getElem?_toList]
            cases fields[i]? with
            | none => rfl
            | some f => simp [szTy, Option.map_map, Function.comp_def]
          rw [this]; exact hf'
        · cases hie : P.info? e with
          | none => simp [szTy, hie] at hm
          | some ie =>
            simp only [hi, hu, hiz, hie]
            have : (fun i => some (i * ie.size, ie.size)) = placeOf P t := by
              funext i
              simp [placeOf, hu, szTy, hie]
            rw [this]; exact hf'
      refine .keep (r := .agg cells') ?_ R (.agg _ _ (by simpa using hcr.1) hcr.array)
      rw [Sem.run_bind, run_build w t _ cells' hb]
      simp

end
end Go.Dv
