/- Each operation of the D machine is what the model's operation does: maps, structs and slices that are built. No condition. -/
import Derived.Test.YtjnllnigogpagadDvG
namespace Go.Dv

section
variable {P : Program} {w0 : World} {I0 : Nat → Prop} {β : Nat → Option BI} {I : Nat → Prop} {w : World} {h : Heap} {fr : Nat}

/-! ### Keys -/

def ChkOk (P : Program) (I : Nat → Prop) (w : World) (n : Nat) (f : TypeId → Option (List SK)) : Prop :=
  ∀ (t : TypeId) (ks : List SK) (a : List T) (xs : List Value) (ag em : Bool), f t = some ks → aggTy P t = some ag → kindsOk ks a = true → TCells I w a xs →
    (Instr.checkKey em n t (mkV ag xs)).run P w = .ok () w

theorem chkFields_ok {n : Nat} {em : Bool} {f : TypeId → Option (List SK)} (ih : ChkOk P I w n f) (hag : ∀ t ks, f t = some ks → ∃ ag, aggTy P t = some ag ∧ (ag = false → ks.length = 1)) :
    ∀ (fs : List Field) (off : Nat) (ks : List SK) (a : List T) (xs : List Value), off ≤ a.length → flatFields P f off fs = some ks → kindsOk ks (a.drop off) = true → TCells I w a xs →
      ((forIn fs PUnit.unit fun f _ => if f.name ≠ "_" then (do
          let x ← part f.type xs.toArray f.offset
          Instr.checkKey em n f.type x
          pure (ForInStep.yield PUnit.unit)) else pure (ForInStep.yield PUnit.unit) : Sem PUnit)).run P w = .ok PUnit.unit w
  | [], off, ks, a, xs, _, hf, hka, ha => by simp
  | x :: rest, off, ks, a, xs, hoa, hf, hka, ha => by
    unfold flatFields at hf
    split at hf
    · rename_i hxo
      simp only [Bool.and_eq_true, bne_iff_ne, beq_iff_eq] at hxo
      obtain ⟨hname, hoff⟩ := hxo
      cases hfx : f x.type with
      | none => rw [hfx] at hf; cases hf
      | some k1 =>
        rw [hfx] at hf
        simp only at hf
        split at hf
        · rename_i hsz
          cases hr : flatFields P f (off + k1.length) rest with
          | none => rw [hr] at hf; cases hf
          | some k2 =>
            rw [hr] at hf
            cases hf
            obtain ⟨ag, hagt, hag1⟩ := hag _ _ hfx
            obtain ⟨ka1, ka2⟩ := kindsOk_append hka
            have la := kindsOk_len hka
            simp only [List.length_append, List.length_drop] at la
            have hax := ha.1
            have pa := part_run (P := P) (w := w) (xs := xs) (o := off) hagt hsz hag1 (by omega)
            have he := ih x.type k1 _ _ ag em hfx hagt ka1 (ha.slice off k1.length)
            have ihr := chkFields_ok (em := em) ih hag rest (off + k1.length) k2 a xs (by omega) hr (by rw [← List.drop_drop]; exact ka2) ha
            simp only [List.forIn_cons, ne_eq, hname, not_false_eq_true, if_true, Sem.run_bind, hoff, pa, he, Result.andThen_ok, Sem.run_pure]
            exact ihr
        · cases hf
    · cases hf

theorem chkArr_ok {n : Nat} {em : Bool} {f : TypeId → Option (List SK)} (ih : ChkOk P I w n f) {e : TypeId} {ks : List SK} {ag : Bool} (hf : f e = some ks) (hag : aggTy P e = some ag) (hag1 : ag = false → ks.length = 1)
    (hsz : szTy P e = some ks.length) {a : List T} {xs : List Value} (ha : TCells I w a xs) :
    ∀ (m s : Nat), s * ks.length ≤ a.length → kindsOk (repKinds ks m) (a.drop (s * ks.length)) = true →
      ((forIn (List.range' s m) PUnit.unit fun i _ => do
          let z ← sizeOf e
          let x ← part e xs.toArray (i * z)
          Instr.checkKey em n e x
          pure (ForInStep.yield PUnit.unit) : Sem PUnit)).run P w = .ok PUnit.unit w
  | 0, s, _, hka => by simp
  | m + 1, s, hoa, hka => by
    obtain ⟨ka1, ka2⟩ := kindsOk_append (ks := ks) (ks' := repKinds ks m) hka
    have la := kindsOk_len hka
    simp only [repKinds, List.length_append, List.length_drop] at la
    have hax := ha.1
    have pa := part_run (P := P) (w := w) (xs := xs) (o := s * ks.length) hag hsz hag1 (by omega)
    have he := ih e ks _ _ ag em hf hag ka1 (ha.slice (s * ks.length) ks.length)
    have hss : s * ks.length + ks.length = (s + 1) * ks.length := by rw [Nat.add_mul, Nat.one_mul]
    rw [List.drop_drop, hss] at ka2
    have ihr := chkArr_ok (em := em) ih hf hag hag1 hsz ha m (s + 1) (by omega) ka2
    simp only [List.range'_succ, List.forIn_cons, Sem.run_bind, sizeOf_run hsz, pa, he, Result.andThen_ok, Sem.run_pure]
    exact ihr

theorem chk_flat : ∀ (d n : Nat), ChkOk P I w (n + d) (flatTy P d)
  | 0, n => fun t ks a xs ag em hf => by cases hf
  | d + 1, n => fun t ks a xs ag em hf hag hka ha => by
    have ih := chk_flat d n
    have hn : n + (d + 1) = (n + d) + 1 := rfl
    rw [hn]
    simp only [flatTy] at hf
    split at hf
    · rename_i hu; simp [Instr.checkKey, run_underlying hu]
    · rename_i k hu; simp [Instr.checkKey, run_underlying hu]
    · rename_i hu; simp [Instr.checkKey, run_underlying hu]
    · rename_i fs hu
      split at hf
      · cases hf
      · have hagt : ag = true := by simp [aggTy, hu] at hag; exact hag
        subst hagt
        have hr := chkFields_ok (em := em) ih (fun t ks h => flat_agg h) fs.toList 0 ks a xs (Nat.zero_le _) hf (by simpa using hka) ha
        simp only [mkV, if_true, Instr.checkKey, Sem.run_bind, run_underlying hu, Result.andThen_ok]
        rw [← Array.forIn_toList]
        rw [hr]
        rfl
    · rename_i m e hu
      have hagt : ag = true := by simp [aggTy, hu] at hag; exact hag
      subst hagt
      cases hfe : flatTy P d e with
      | none => rw [hfe] at hf; cases hf
      | some k1 =>
        rw [hfe] at hf
        simp only at hf
        split at hf
        · rename_i hsz
          cases hf
          obtain ⟨ag1, hag1, hl1⟩ := flat_agg hfe
          have hr := chkArr_ok (em := em) ih hfe hag1 hl1 hsz ha m 0 (by simp) (by simpa using hka)
          simp only [mkV, if_true, Instr.checkKey, Sem.run_bind, run_underlying hu, Result.andThen_ok]
          rw [Std.Legacy.Range.forIn_eq_forIn_range']
          simp only [Std.Legacy.Range.size, Nat.sub_zero, Nat.add_sub_cancel, Nat.div_one]
          rw [hr]
          rfl
        · cases hf
    · cases hf

/-! ### Looking a key up -/

def findIdx {α : Type} (kk : KK) (k : List T) : List ((Bool × List T) × α) → Option (Option Nat)
  | [] => some none
  | (a, _) :: rest => if a.1 = kk.agg ∧ kindsOk kk.ks a.2 = true then (if sameCells k a.2 then some (some 0) else (findIdx kk k rest).map (·.map (· + 1))) else none

theorem findKv_idx {α : Type} {kk : KK} {k : List T} : ∀ {kvs : List ((Bool × List T) × α)} {r : Option α}, findKv kk k kvs = some r →
    ∃ o, findIdx kk k kvs = some o ∧ ((o = none ∧ r = none) ∨ ∃ i, ∃ hi : i < kvs.length, o = some i ∧ r = some (kvs[i]).2)
  | [], r, hf => by cases hf; exact ⟨none, rfl, .inl ⟨rfl, rfl⟩⟩
  | (a, x) :: rest, r, hf => by
    unfold findKv at hf
    split at hf
    · rename_i hk
      split at hf
      · rename_i hs
        cases hf
        exact ⟨some 0, by simp [findIdx, hk, hs], .inr ⟨0, by simp, rfl, rfl⟩⟩
      · rename_i hs
        obtain ⟨o, ho, hor⟩ := findKv_idx hf
        refine ⟨o.map (· + 1), by simp [findIdx, hk, hs, ho], ?_⟩
        rcases hor with ⟨rfl, rfl⟩ | ⟨i, hi, rfl, rfl⟩
        · exact .inl ⟨rfl, rfl⟩
        · exact .inr ⟨i + 1, by simpa using hi, rfl, by simp⟩
    · cases hf

theorem setKv_idx {kk : KK} {k : List T} {x : V} : ∀ {kvs kvs' : List ((Bool × List T) × V)}, setKv kk k x kvs = some kvs' →
    ∃ o, findIdx kk k kvs = some o ∧ ((o = none ∧ kvs' = kvs ++ [((kk.agg, k), x)]) ∨ ∃ i, ∃ _ : i < kvs.length, o = some i ∧ kvs' = kvs.set i ((kk.agg, k), x))
  | [], kvs', hf => by cases hf; exact ⟨none, rfl, .inl ⟨rfl, rfl⟩⟩
  | (a, y) :: rest, kvs', hf => by
    unfold setKv at hf
    split at hf
    · rename_i hk
      split at hf
      · rename_i hs
        cases hf
        exact ⟨some 0, by simp [findIdx, hk, hs], .inr ⟨0, by simp, rfl, rfl⟩⟩
      · rename_i hs
        split at hf
        · rename_i r hr
          cases hf
          obtain ⟨o, ho, hor⟩ := setKv_idx hr
          refine ⟨o.map (· + 1), by simp [findIdx, hk, hs, ho], ?_⟩
          rcases hor with ⟨rfl, rfl⟩ | ⟨i, hi, rfl, rfl⟩
          · exact .inl ⟨rfl, rfl⟩
          · exact .inr ⟨i + 1, by simpa using hi, rfl, by simp⟩
        · cases hf
    · cases hf

theorem keyTy_flat {kt : TypeId} {kk : KK} (hk : keyTy P kt = some kk) : flatTy P 20 kt = some kk.ks ∧ aggTy P kt = some kk.agg := by
  unfold keyTy at hk
  split at hk
  · rename_i h1 h2; cases hk; exact ⟨h1, h2⟩
  · cases hk

/-- 'es[i].val' behind a found index. -/
def hitOf (es : List MapEntry) (off : Nat) : Option Nat → Option (Nat × Value)
  | none => none
  | some i => (es[i]?).map fun e => (off + i, e.val)

theorem hitOf_cons (e : MapEntry) (es : List MapEntry) (off : Nat) (o : Option Nat) : hitOf (e :: es) off (o.map (· + 1)) = hitOf es (off + 1) o := by
  cases o with
  | none => rfl
  | some i =>
    simp only [Option.map_some, hitOf, List.getElem?_cons_succ]
    cases es[i]? with
    | none => rfl
    | some x => simp only [Option.map_some]; congr 2; omega

theorem findAsking_run {α : Type} {kt : TypeId} {kk : KK} (hk : keyTy P kt = some kk) {k : List T} {kx : List Value} (hkk : kindsOk kk.ks k = true) (hkx : TCells I w k kx) :
    ∀ (kvs : List ((Bool × List T) × α)) (es : List MapEntry) (off : Nat) (o : Option Nat), es.length = kvs.length →
      (∀ (i : Nat) (hi : i < kvs.length) (hi' : i < es.length), KRel I w (kvs[i]).1 (es[i]).key) → findIdx kk k kvs = some o →
      (Instr.findAsking kt (mkV kk.agg kx) es off).run P w = .ok (hitOf es off o) w
  | [], [], off, o, _, _, hf => by cases hf; simp [Instr.findAsking, hitOf]
  | [], _ :: _, off, o, hl, _, _ => by simp at hl
  | _ :: _, [], off, o, hl, _, _ => by simp at hl
  | (a, x) :: kvs, e :: es, off, o, hl, hr, hf => by
    obtain ⟨h1, h2⟩ := keyTy_flat hk
    unfold findIdx at hf
    split at hf
    · rename_i hka
      obtain ⟨xs, hex, hxs⟩ := hr 0 (by simp) (by simp)
      simp only [List.getElem_cons_zero] at hex hxs
      have he := flat_eq (P := P) (I := I) (w := w) 20 9980 kt kk.ks k a.2 kx xs kk.agg h1 h2 hkk hka.2 hkx hxs
      have he' : (Op.equal kt (mkV kk.agg kx) e.key).run P w = .ok (sameCells k a.2) w := by rw [hex, hka.1]; exact he
      split at hf
      · rename_i hs
        cases hf
        simp [Instr.findAsking, he', hs, hitOf]
      · rename_i hs
        have hs' : sameCells k a.2 = false := by simpa using hs
        cases hf2 : findIdx kk k kvs with
        | none => rw [hf2] at hf; cases hf
        | some o2 =>
          rw [hf2] at hf
          simp only [Option.map_some, Option.some.injEq] at hf
          subst hf
          have ih := findAsking_run hk hkk hkx kvs es (off + 1) o2 (by simpa using hl) (fun i hi hi' => by
            have := hr (i + 1) (by simpa using hi) (by simpa using hi')
            simpa using this) hf2
          simp only [Instr.findAsking, Sem.run_bind, he', hs', Result.andThen_ok, Bool.false_eq_true, if_false, Sem.run_ite]
          rw [ih, hitOf_cons]
    · cases hf

theorem sameNow_ok {kt : TypeId} {d : TypeDesc} {kk : KK} (hk : keyTy P kt = some kk) (hu : P.underlying kt = some d) (hag : kk.agg = false) {a b : List T} {xs ys : List Value} (ha : kindsOk kk.ks a = true)
    (hb : kindsOk kk.ks b = true) (hx : TCells I w a xs) (hy : TCells I w b ys) : Instr.sameNow d (mkV false xs) (mkV false ys) = some (sameCells a b) := by
  obtain ⟨h1, h2⟩ := keyTy_flat hk
  rw [hag] at h2
  have key : ∀ k : SK, kk.ks = [k] → (∀ p q x y, k.ok p = true → k.ok q = true → TRel I w p x → TRel I w q y → Instr.sameNow d x y = some (T.same p q)) →
      Instr.sameNow d (mkV false xs) (mkV false ys) = some (sameCells a b) := by
    intro k hks hh
    rw [hks] at ha hb
    have l1 := kindsOk_len ha
    have l2 := kindsOk_len hb
    match a, b, l1, l2, ha, hb, hx, hy with
    | [p], [q], _, _, ha, hb, hx, hy =>
      obtain ⟨x, xs', rfl, hpx, _⟩ := hx.cons_inv
      obtain ⟨y, ys', rfl, hqy, _⟩ := hy.cons_inv
      have := hh p q x y (by simpa [kindsOk] using ha) (by simpa [kindsOk] using hb) hpx hqy
      simp [mkV, this, sameCells]
  have h20 : flatTy P (19 + 1) kt = some kk.ks := h1
  simp only [flatTy, hu] at h20
  unfold aggTy at h2
  rw [hu] at h2
  cases d <;> simp only at h20 h2 <;> first | (cases h20; done) | (cases h2; done) | skip
  · refine key .bool ((Option.some.inj h20).symm) (fun p q x y hp hq hpx hqy => ?_)
    cases p <;> cases hp
    cases q <;> cases hq
    cases hpx; cases hqy
    rfl
  · rename_i k
    refine key (.int k) ((Option.some.inj h20).symm) (fun p q x y hp hq hpx hqy => ?_)
    cases p with
    | int k1 n1 =>
      cases q with
      | int k2 n2 =>
        cases hpx; cases hqy
        simp only [SK.ok, beq_iff_eq] at hp hq
        subst hp; subst hq
        simp [Instr.sameNow, T.same]
      | _ => cases hq
    | _ => cases hp
  · refine key .str ((Option.some.inj h20).symm) (fun p q x y hp hq hpx hqy => ?_)
    cases p <;> cases hp
    cases q <;> cases hq
    cases hpx; cases hqy
    rfl

theorem findNow_run {α : Type} {kt : TypeId} {d : TypeDesc} {kk : KK} (hk : keyTy P kt = some kk) (hu : P.underlying kt = some d) (hag : kk.agg = false) {k : List T} {kx : List Value} (hkk : kindsOk kk.ks k = true)
    (hkx : TCells I w k kx) : ∀ (kvs : List ((Bool × List T) × α)) (es : List MapEntry) (off : Nat) (o : Option Nat), es.length = kvs.length →
      (∀ (i : Nat) (hi : i < kvs.length) (hi' : i < es.length), KRel I w (kvs[i]).1 (es[i]).key) → findIdx kk k kvs = some o →
      Instr.findNow d (mkV false kx) es off = some (hitOf es off o)
  | [], [], off, o, _, _, hf => by cases hf; simp [Instr.findNow, hitOf]
  | [], _ :: _, off, o, hl, _, _ => by simp at hl
  | _ :: _, [], off, o, hl, _, _ => by simp at hl
  | (a, x) :: kvs, e :: es, off, o, hl, hr, hf => by
    unfold findIdx at hf
    split at hf
    · rename_i hka
      obtain ⟨xs, hex, hxs⟩ := hr 0 (by simp) (by simp)
      simp only [List.getElem_cons_zero] at hex hxs
      have he := sameNow_ok hk hu hag hkk hka.2 hkx hxs
      have hke : e.key = mkV false xs := by rw [hex, hka.1, hag]
      split at hf
      · rename_i hs
        cases hf
        simp [Instr.findNow, hke, he, hs, hitOf]
      · rename_i hs
        have hs' : sameCells k a.2 = false := by simpa using hs
        cases hf2 : findIdx kk k kvs with
        | none => rw [hf2] at hf; cases hf
        | some o2 =>
          rw [hf2] at hf
          simp only [Option.map_some, Option.some.injEq] at hf
          subst hf
          have ih := findNow_run hk hu hag hkk hkx kvs es (off + 1) o2 (by simpa using hl) (fun i hi hi' => by
            have := hr (i + 1) (by simpa using hi) (by simpa using hi')
            simpa using this) hf2
          simp only [Instr.findNow, hke, he, hs']
          rw [ih, hitOf_cons]
    · cases hf

theorem findKey_run {α : Type} {kt : TypeId} {kk : KK} (hk : keyTy P kt = some kk) {k : List T} {kx : List Value} (hkk : kindsOk kk.ks k = true) (hkx : TCells I w k kx)
    (kvs : List ((Bool × List T) × α)) (es : List MapEntry) (o : Option Nat) (hl : es.length = kvs.length)
    (hr : ∀ (i : Nat) (hi : i < kvs.length) (hi' : i < es.length), KRel I w (kvs[i]).1 (es[i]).key) (hf : findIdx kk k kvs = some o) :
    (Instr.findKey kt (mkV kk.agg kx) es).run P w = .ok (hitOf es 0 o) w := by
  obtain ⟨h1, h2⟩ := keyTy_flat hk
  cases hu : P.underlying kt with
  | none => simp [aggTy, hu] at h2
  | some d =>
    simp only [Instr.findKey, Sem.run_bind, run_underlying hu, Result.andThen_ok]
    by_cases hag : kk.agg = false
    · have := findNow_run hk hu hag hkk hkx kvs es 0 o hl hr hf
      rw [hag, this]
      rfl
    · have hag' : kk.agg = true := by simpa using hag
      cases hn : Instr.findNow d (mkV kk.agg kx) es 0 with
      | none => exact findAsking_run hk hkk hkx kvs es 0 o hl hr hf
      | some r =>
        cases es with
        | nil =>
          cases kvs with
          | nil =>
            cases hf
            simp only [Instr.findNow, Option.some.injEq] at hn
            subst hn
            rfl
          | cons => simp at hl
        | cons e es =>
          exfalso
          simp only [Instr.findNow, hag', mkV, if_true] at hn
          have : Instr.sameNow d (.agg kx.toArray) e.key = none := by
            unfold Instr.sameNow
            split <;> first | rfl | (rename_i h1 h2; cases h1; done) | (rename_i h1 h2 h3; cases h2; done) | skip
            all_goals simp_all
          rw [this] at hn
          cases hn

end
end Go.Dv
