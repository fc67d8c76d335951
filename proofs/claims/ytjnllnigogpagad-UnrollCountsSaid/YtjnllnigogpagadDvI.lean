/- Each operation of the D machine is what the model's operation does: maps read and written; structs and slices that are built. No condition. -/
import Derived.Test.YtjnllnigogpagadDvH
namespace Go.Dv

section
variable {P : Program} {w0 : World} {I0 : Nat → Prop} {β : Nat → Option BI} {I : Nat → Prop} {w : World} {h : Heap} {fr : Nat}

theorem keyCells_ok {kk : KK} {k : V} {kv : Value} {ts : List T} (hx : VRel β I w k kv) (hk : keyCells kk k = some ts) :
    ∃ kx, kv = mkV kk.agg kx ∧ TCells I w ts kx ∧ kindsOk kk.ks ts = true := by
  unfold keyCells at hk
  split at hk
  · rename_i hag
    split at hk
    · rename_i ts' hd
      split at hk
      · rename_i hks
        cases hk
        have hc := dataCells_rel hd hx.cellsRel
        cases hx with
        | agg cs xs hn hv =>
          refine ⟨xs.toList, ?_, by simpa [Value.cells] using hc, hks⟩
          rw [← hag]
          simp [V.isAgg, mkV]
        | d t _ ht =>
          have : kv.cells.toList = [kv] := by cases ht <;> rfl
          rw [this] at hc
          refine ⟨[kv], ?_, hc, hks⟩
          rw [← hag]
          simp [V.isAgg, mkV]
        | undef => cases hd
        | ptr => cases hd
        | iptr => cases hd
        | sl => cases hd
        | map => cases hd
        | fn => cases hd
        | tup => cases hd
        | yield => cases hd
        | it => cases hd
        | emp => cases hd
        | opq => cases hd
      · cases hk
    · cases hk
  · cases hk

theorem checkKey_run {kt : TypeId} {kk : KK} {em : Bool} {ts : List T} {kx : List Value} (hk : keyTy P kt = some kk) (hks : kindsOk kk.ks ts = true) (hc : TCells I w ts kx) :
    (Instr.checkKey em 10000 kt (mkV kk.agg kx)).run P w = .ok () w := by
  obtain ⟨h1, h2⟩ := keyTy_flat hk
  exact chk_flat (P := P) (I := I) (w := w) 20 9980 kt kk.ks ts kx kk.agg em h1 h2 hks hc

theorem tupOk_rel {v : V} {x : Value} {b ok : Bool} (hv : VRel β I w v x) : VRel β I w (if ok then .tup [v, .bool b] else v) (if ok then .tuple #[x, .bool b] else x) := by
  cases ok with
  | false => exact hv
  | true =>
    simp only [if_true]
    refine .tup _ _ rfl (fun i hi hi' => ?_)
    match i, hi with
    | 0, _ => exact hv
    | 1, _ => exact ret_bool _

theorem getObj_run {r : Nat} {ents : Array MapEntry} {clock : Nat} (hb : w.heap[r]? = some (.map ents clock)) : (getObj r).run P w = .ok (.map ents clock) w := by
  simp [getObj, Sem.run, hb]

/-- The model's look-up behind the reading of the map. -/
def lookRest (kt e : TypeId) (key : Value) (ok : Bool) (es : Array MapEntry) : Sem Value := do
  Instr.checkKey es.isEmpty 10000 kt key
  let (v, is) ← match ← Instr.findKey kt key es.toList with
    | some (_, v) => pure (v, true)
    | none => pure (← zeroValue e, false)
  pure (if ok then .tuple #[v, .bool is] else v)

theorem lookup_nil {t kt e : TypeId} (ht : P.underlying t = some (.map kt e)) (key : Value) (ok : Bool) : (Instr.lookup t (.map none) key ok).run P w = (lookRest kt e key ok #[]).run P w := by
  simp only [Instr.lookup, Sem.run_bind, run_underlying ht, Result.andThen_ok, Sem.run_pure, lookRest]
  rfl

theorem lookup_some {t kt e : TypeId} (ht : P.underlying t = some (.map kt e)) (key : Value) (ok : Bool) {r : Nat} {ents : Array MapEntry} {clock : Nat} (hb : w.heap[r]? = some (.map ents clock)) :
    (Instr.lookup t (.map (some r)) key ok).run P w = (lookRest kt e key ok ents).run P w := by
  simp only [Instr.lookup, Sem.run_bind, run_underlying ht, Result.andThen_ok, getObj_run hb, Sem.run_pure, lookRest]
  rfl

theorem lookup_ok {t kt e : TypeId} {kk : KK} {zero : V} {ok : Bool} {m k v : V} {a b : Value} (ht : P.underlying t = some (.map kt e)) (hk : keyTy P kt = some kk) (hz : zeroTy P e = some zero)
    (R : Rel P w0 I0 β I h w) (hm : VRel β I w m a) (hkx : VRel β I w k b) (hv : lookupV kk h zero ok m k = some v) : ∃ r, (Instr.lookup t a b ok).run P w = .ok r w ∧ VRel β I w v r := by
  unfold lookupV at hv
  split at hv
  · rename_i ts hkc
    obtain ⟨kx, rfl, hc, hks⟩ := keyCells_ok hkx hkc
    obtain ⟨z, hzr, hzv⟩ := zero_run (P := P) (w := w) hz
    -- the entries, the model's and the machine's
    have fin : ∀ (α : Type) (kvs : List ((Bool × List T) × α)) (ents : Array MapEntry) (o : Option Nat) (r : Option V),
        (Instr.lookup t a (mkV kk.agg kx) ok).run P w = (lookRest kt e (mkV kk.agg kx) ok ents).run P w →
        ents.size = kvs.length → (∀ (i : Nat) (hi : i < kvs.length) (hi' : i < ents.toList.length), KRel I w (kvs[i]).1 (ents.toList[i]).key) → findIdx kk ts kvs = some o →
        (match o with | none => r = none | some i => ∃ (hi : i < ents.toList.length) (u : V), r = some u ∧ VRel β I w u (ents.toList[i]).val) →
        ∃ x, (Instr.lookup t a (mkV kk.agg kx) ok).run P w = .ok x w ∧
          VRel β I w (match r with | some v => (if ok then .tup [v, .bool true] else v) | none => (if ok then .tup [zero, .bool false] else zero)) x := by
      intro α kvs ents o r hent hsz hrel hix hro
      have hchk := checkKey_run (P := P) (em := ents.isEmpty) hk hks hc
      have hfind := findKey_run (P := P) hk hks hc kvs ents.toList o (by simpa using hsz) hrel hix
      cases o with
      | none =>
        simp only at hro
        subst hro
        refine ⟨_, ?_, tupOk_rel (hzv β I w)⟩
        rw [hent]
        simp only [lookRest, Result.andThen_ok, Sem.run_bind, hchk, hfind, hitOf, hzr, Sem.run_pure]
      | some i =>
        obtain ⟨hi, u, rfl, hu⟩ := hro
        refine ⟨_, ?_, tupOk_rel hu⟩
        rw [hent]
        have hhit : hitOf ents.toList 0 (some i) = some (0 + i, (ents.toList[i]).val) := by simp only [hitOf, List.getElem?_eq_getElem hi, Option.map_some]
        simp only [lookRest, Result.andThen_ok, Sem.run_bind, hchk, hfind, hhit, Sem.run_pure]
    unfold findV at hv
    cases hm with
    | d _ _ htr =>
      cases htr with
      | nilm =>
        simp only [Option.some.injEq] at hv
        obtain ⟨x, hx, hxv⟩ := fin Unit [] #[] none none (lookup_nil ht _ _) rfl (fun i hi => absurd hi (by simp)) rfl rfl
        refine ⟨x, hx, ?_⟩
        rw [← hv]; exact hxv
      | imap es r ents clock kf xf hI hb hn hke hkv hxe hxv =>
        simp only at hv
        cases hf : findKv kk ts es with
        | none => rw [hf] at hv; cases hv
        | some ro =>
          rw [hf] at hv
          obtain ⟨o, ho, hor⟩ := findKv_idx hf
          have hrel : ∀ (i : Nat) (hi : i < es.length) (hi' : i < ents.toList.length), KRel I w (es[i]).1 (ents.toList[i]).key := fun i hi hi' => by
            refine ⟨_, by rw [Array.getElem_toList]; exact hke i hi (by simpa using hi'), by simp, fun j hj hj' => ?_⟩
            simpa using hkv i j hi hj
          rcases hor with ⟨rfl, rfl⟩ | ⟨i, hi, rfl, rfl⟩
          · simp only [Option.some.injEq] at hv
            obtain ⟨x, hx, hxv'⟩ := fin _ es ents none none (lookup_some ht _ _ hb) hn hrel ho rfl
            exact ⟨x, hx, by rw [← hv]; exact hxv'⟩
          · simp only [Option.some.injEq] at hv
            have hi2 : i < ents.toList.length := by simp; omega
            obtain ⟨x, hx, hxv'⟩ := fin _ es ents (some i) (some (ofCells (es[i]).2)) (lookup_some ht _ _ hb) hn hrel ho ⟨hi2, _, rfl, by
              have e2 : ents.toList[i] = ents[i]'(by simpa using hi2) := Array.getElem_toList ..
              rw [e2, hxe i hi (by simpa using hi2)]
              have hc2 : CRel β I w ((es[i]).2.2.map .d) ((List.range (es[i]).2.2.length).map (xf i)) := ⟨by simp, fun j hj hj' => by
                simp only [List.getElem_map, List.getElem_range]; exact .d _ _ (hxv i j hi (by simpa using hj))⟩
              generalize (es[i]).2 = q at hc2
              obtain ⟨ag, ts2⟩ := q
              cases ag with
              | true => exact .agg _ _ (by simp) (hc2.toArr)
              | false =>
                cases ts2 with
                | nil => exact .undef
                | cons p ps =>
                  have := hc2.2 0 (by simp) (by simp)
                  simpa [mkV, ofCells, List.range_succ_eq_map] using this⟩
            exact ⟨x, hx, by rw [← hv]; exact hxv'⟩
      | bool => cases hv
      | int => cases hv
      | str => cases hv
      | nilp => cases hv
      | nils => cases hv
      | nilf => cases hv
      | nili => cases hv
      | lst => cases hv
    | map b bi hbi =>
      simp only at hv
      cases hh : h b with
      | none => rw [hh] at hv; cases hv
      | some blk =>
        cases blk with
        | row es => rw [hh] at hv; cases hv
        | loop => rw [hh] at hv; cases hv
        | iter => rw [hh] at hv; cases hv
        | map kvs =>
          rw [hh] at hv
          simp only at hv
          obtain ⟨bi', hbi', hrel⟩ := R.live b _ hh
          rw [hbi] at hbi'; cases hbi'
          obtain ⟨ents, clock, h1, h2, hbn, h3⟩ := hrel
          cases hf : findKv kk ts kvs with
          | none => rw [hf] at hv; cases hv
          | some ro =>
            rw [hf] at hv
            obtain ⟨o, ho, hor⟩ := findKv_idx hf
            have hrel : ∀ (i : Nat) (hi : i < kvs.length) (hi' : i < ents.toList.length), KRel I w (kvs[i]).1 (ents.toList[i]).key := fun i hi hi' => by
              rw [Array.getElem_toList]; exact (h3 i hi (by simpa using hi')).1
            rcases hor with ⟨rfl, rfl⟩ | ⟨i, hi, rfl, rfl⟩
            · simp only [Option.some.injEq] at hv
              obtain ⟨x, hx, hxv'⟩ := fin _ kvs ents none none (lookup_some ht _ _ h1) h2 hrel ho rfl
              exact ⟨x, hx, by rw [← hv]; exact hxv'⟩
            · simp only [Option.some.injEq] at hv
              have hi2 : i < ents.toList.length := by simp; omega
              obtain ⟨x, hx, hxv'⟩ := fin _ kvs ents (some i) (some (kvs[i]).2) (lookup_some ht _ _ h1) h2 hrel ho ⟨hi2, _, rfl, by
                rw [Array.getElem_toList]; exact (h3 i hi (by simpa using hi2)).2⟩
              exact ⟨x, hx, by rw [← hv]; exact hxv'⟩
    | undef => cases hv
    | ptr => cases hv
    | iptr => cases hv
    | sl => cases hv
    | fn => cases hv
    | agg => cases hv
    | tup => cases hv
    | yield => cases hv
    | it => cases hv
    | emp => cases hv
    | opq => cases hv
  · cases hv

theorem sameBits_scalar {k : SK} {a b : T} {x y : Value} {n : Nat} (ha : k.ok a = true) (hb : k.ok b = true) (hx : TRel I w a x) (hy : TRel I w b y) (hs : T.same a b = true) :
    Instr.sameBits n x y = true := by
  cases k with
  | bool =>
    cases a <;> cases ha
    cases b <;> cases hb
    cases hx; cases hy
    cases n <;> simpa [T.same, Instr.sameBits] using hs
  | str =>
    cases a <;> cases ha
    cases b <;> cases hb
    cases hx; cases hy
    cases n <;> simpa [T.same, Instr.sameBits] using hs
  | int k =>
    cases a with
    | int k1 n1 =>
      cases b with
      | int k2 n2 =>
        cases hx; cases hy
        simp only [SK.ok, beq_iff_eq] at ha hb
        subst ha; subst hb
        cases n <;> simpa [T.same, Instr.sameBits] using hs
      | _ => cases hb
    | _ => cases ha

theorem sameBits_list {n : Nat} : ∀ {ks : List SK} {a b : List T} {xs ys : List Value}, kindsOk ks a = true → kindsOk ks b = true → TCells I w a xs → TCells I w b ys → sameCells a b = true →
    ((xs.zip ys).all fun p => Instr.sameBits n p.1 p.2) = true
  | [], [], [], xs, ys, _, _, hx, hy, _ => by
    have : xs = [] := List.length_eq_zero_iff.1 hx.1
    simp [this]
  | k :: ks, p :: a, q :: b, xs, ys, ha, hb, hx, hy, hs => by
    obtain ⟨x, xs', rfl, hpx, hxs⟩ := hx.cons_inv
    obtain ⟨y, ys', rfl, hqy, hys⟩ := hy.cons_inv
    simp only [kindsOk, Bool.and_eq_true] at ha hb
    simp only [sameCells, Bool.and_eq_true] at hs
    simp [sameBits_scalar (n := n) ha.1 hb.1 hpx hqy hs.1, sameBits_list ha.2 hb.2 hxs hys hs.2]
  | _ :: _, [], _, _, _, ha, _, _, _, _ => by cases ha
  | _ :: _, _ :: _, [], _, _, _, hb, _, _, _ => by cases hb
  | [], _ :: _, _, _, _, ha, _, _, _, _ => by cases ha
  | [], [], _ :: _, _, _, _, hb, _, _, _ => by cases hb

theorem T.same_symm {a b : T} (h : T.same a b = true) : T.same b a = true := by
  cases a with
  | int k n =>
    cases b with
    | int k' n' => simp only [T.same, beq_iff_eq] at h ⊢; exact h.symm
    | _ => cases h
  | bool p =>
    cases b with
    | bool q => simp only [T.same, beq_iff_eq] at h ⊢; exact h.symm
    | _ => cases h
  | str p =>
    cases b with
    | str q =>
      simp only [T.same] at h ⊢
      rw [beq_toListBytes] at h ⊢
      simp only [beq_iff_eq] at h ⊢
      exact h.symm
    | _ => cases h
  | _ => cases b <;> cases h

theorem sameBits_key {kt : TypeId} {kk : KK} (hk : keyTy P kt = some kk) {a b : List T} {xs ys : List Value} (ha : kindsOk kk.ks a = true) (hb : kindsOk kk.ks b = true) (hx : TCells I w a xs) (hy : TCells I w b ys)
    (hs : sameCells a b = true) : Instr.sameBits 10000 (mkV kk.agg ys) (mkV kk.agg xs) = true := by
  have hs' : sameCells b a = true := by
    clear hx hy
    generalize kk.ks = ks at ha hb
    induction ks generalizing a b with
    | nil =>
      cases a <;> first | (cases ha; done) | skip
      cases b <;> first | (cases hb; done) | rfl
    | cons k ks ih =>
      cases a with
      | nil => cases ha
      | cons p a =>
        cases b with
        | nil => cases hb
        | cons q b =>
          simp only [kindsOk, Bool.and_eq_true] at ha hb
          simp only [sameCells, Bool.and_eq_true] at hs ⊢
          refine ⟨?_, ih hs.2 ha.2 hb.2⟩
          exact T.same_symm hs.1
  obtain ⟨h1, h2⟩ := keyTy_flat hk
  obtain ⟨ag, h3, h4⟩ := flat_agg h1
  rw [h2] at h3
  cases h3
  have hl := sameBits_list (n := 9999) hb ha hy hx hs'
  cases hag : kk.agg with
  | true =>
    have hsz : ys.length = xs.length := by rw [hx.1, hy.1, kindsOk_len ha, kindsOk_len hb]
    show Instr.sameBits (9999 + 1) (.agg ys.toArray) (.agg xs.toArray) = true
    generalize 9999 = n at hl
    simp only [Instr.sameBits, List.size_toArray, hsz, BEq.rfl, Bool.true_and]
    exact hl
  | false =>
    have hlen := h4 hag
    have l1 := kindsOk_len ha
    have l2 := kindsOk_len hb
    rw [hlen] at l1 l2
    match a, b, l1, l2, ha, hb, hx, hy, hs' with
    | [p], [q], _, _, ha, hb, hx, hy, hs' =>
      obtain ⟨x, xs', rfl, hpx, hxs⟩ := hx.cons_inv
      obtain ⟨y, ys', rfl, hqy, hys⟩ := hy.cons_inv
      match kk.ks, hlen, ha, hb with
      | [k], _, ha, hb =>
        simp only [mkV]
        exact sameBits_scalar (k := k) (by simpa [kindsOk] using hb) (by simpa [kindsOk] using ha) hqy hpx (by simpa [sameCells] using hs')

end
end Go.Dv
