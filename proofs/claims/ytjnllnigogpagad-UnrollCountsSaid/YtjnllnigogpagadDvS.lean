/- Regions at whatever order their edges allow, to the end; the code of a function; functions that call functions. No condition. -/
import Derived.Test.YtjnllnigogpagadDvR
import Derived.LoopN
namespace Go.Dv

section
variable {P : Program} {en : Nat → Prop} {w0 : World} {I0 : Nat → Prop}

theorem nothing_left {L : Nat → Bool} {n : Nat} (h : ((List.range n).filter fun i => !L i).length ≤ 0) : ∀ k, k < n → L k = true := fun k hk => by
  have hnil : (List.range n).filter (fun i => !L i) = [] := List.length_eq_zero_iff.1 (by omega)
  rw [List.filter_eq_nil_iff] at hnil
  have := hnil k (List.mem_range.2 hk)
  simpa using this

theorem listed_set {listed : Array Bool} {k : Nat} (hk : k < listed.size) : (fun i => (listed.setIfInBounds k true).getD i false) = setL (fun i => listed.getD i false) k := by
  funext i
  simp only [setL, Array.getD_eq_getD_getElem?, Array.getElem?_setIfInBounds]
  by_cases e : k = i
  · subst e; simp [hk]
  · rw [if_neg e, if_neg (fun h => e h.symm)]

theorem curSt_none {ds : List DOper} {base : Nat} {T : Nat → St} {vv : Nat → V} {mm : Nat → Mask} {L : Nat → Bool} (h : ∀ k, k < ds.length → L k = false) : curSt ds base T vv mm L = T 0 := by
  have e1 : ∀ n, n ≤ ds.length → tmAt (T 0).tm (fun k => (ds.getD k default).dst) vv L n = (T 0).tm := by
    intro n
    induction n with
    | zero => intro _; rfl
    | succ n ih => intro hn; rw [tmAt, h n (by omega)]; simp only [Bool.false_eq_true, if_false]; exact ih (by omega)
  have e2 : ∀ (W : Nat → Nat → Bool) n, n ≤ ds.length → hpAt (T 0).hp T W L n = (T 0).hp := by
    intro W n
    induction n with
    | zero => intro _; rfl
    | succ n ih => intro hn; funext κ; rw [hpAt_succ, h n (by omega)]; simp only [Bool.false_and, Bool.false_eq_true, if_false]; rw [ih (by omega)]
  have e3 : ∀ (f : Nat → Bool) n, n ≤ ds.length → nxAt (T 0).nx T f L n = (T 0).nx := by
    intro f n
    induction n with
    | zero => intro _; rfl
    | succ n ih => intro hn; rw [nxAt, h n (by omega)]; simp only [Bool.false_and, Bool.false_eq_true, if_false]; exact ih (by omega)
  unfold curSt
  rw [e1 _ (Nat.le_refl _), e2 _ _ (Nat.le_refl _), e3 _ _ (Nat.le_refl _)]

theorem curSt_all {cl : Caller} {pure' : Nat → Bool} {ops : Array Oper} {base : Nat} {ds : List DOper} {T : Nat → St} {vv : Nat → V} {mm : Nat → Mask} (pl : Plan P cl pure' ops base ds T vv mm) {L : Nat → Bool}
    (h : ∀ k, k < ds.length → L k = true) : curSt ds base T vv mm L = T ds.length := by
  have gd : ∀ m (hm : m < ds.length), ds.getD m default = ds[m] := fun m hm => by simp [hm]
  have no : ∀ m, m < ds.length → L m = false → False := fun m hm e => by rw [h m hm] at e; cases e
  have e1 : tmAt (T 0).tm (fun k => (ds.getD k default).dst) vv L ds.length = (T ds.length).tm := by
    apply List.ext_getElem?
    intro t
    exact tmAt_slot (k := ds.length) (Nat.le_refl _) rfl (fun m hm => by rw [gd m hm]; exact (pl.eff m hm).tm) (fun m hm e => (no m hm e).elim) (fun m hm hm2 _ => by omega)
  have e2 : hpAt (T 0).hp T (fun k κ => decide (stepWrites (mm k) (ds.getD k default) (T k).tm (base + k) κ)) L ds.length = (T ds.length).hp := by
    funext κ
    exact hpAt_key (k := ds.length) (Nat.le_refl _) rfl (fun m hm h => by rw [gd m hm] at h; exact (pl.eff m hm).keep κ (by simpa using h)) (fun m hm e => (no m hm e).elim) (fun m hm hm2 _ => by omega)
  have e3 : nxAt (T 0).nx T (fun k => wanted (ds.getD k default).guard (T k).tm && (ds.getD k default).op.cls == 5) L ds.length = (T ds.length).nx := by
    refine nxAt_eq (k := ds.length) (Nat.le_refl _) rfl (fun m hm h => ?_) (fun m hm e => (no m hm e).elim) (fun m hm hm2 _ => by omega)
    rw [gd m hm] at h
    refine (pl.eff m hm).nx (fun hc => ?_)
    simp [hc.1, hc.2] at h
  unfold curSt
  rw [e1, e2, e3]

theorem draw_core {r : Option Nat} {n : Nat} {cl : Caller} (hcl : CallSound P cl) {pure' : Nat → Bool} {ops : Array Oper} {base : Nat} {ds : List DOper} {T : Nat → St} {vv : Nat → V} {mm : Nat → Mask} (pl : Plan P cl pure' ops base ds T vv mm)
    {β₀ : Nat → Option BI} {I₀ : Nat → Prop} {w₀ : World} {Q : Exit → Act → World → Prop}
    (hQ : ∀ β I a w, Mono β₀ I₀ w₀ β I w → (∀ id, id < base → β id = β₀ id) → SRel P en w0 I0 β I (T ds.length) a w → Q .normal a w) :
    ∀ (fuel : Nat) (listed : Array Bool) (β : Nat → Option BI) (I : Nat → Prop) (a : Act) (w : World), listed.size = ds.length →
      PInv P en w0 I0 ops base ds T vv mm β₀ I₀ w₀ (fun i => listed.getD i false) β I a w → ((List.range ds.length).filter fun i => !listed.getD i false).length ≤ fuel →
      wpAnyIn (Fw r) n P .any ops Q fuel listed a w := by
  have fin : ∀ (listed : Array Bool) (β : Nat → Option BI) (I : Nat → Prop) (a : Act) (w : World), PInv P en w0 I0 ops base ds T vv mm β₀ I₀ w₀ (fun i => listed.getD i false) β I a w →
      (∀ k, k < ds.length → listed.getD k false = true) → Q .normal a w := fun listed β I a w inv hall => by
    have S := inv.srel
    rw [curSt_all pl hall] at S
    exact hQ β I a w inv.mono inv.low S
  -- nobody is ready only if nobody is left
  have rdy : ∀ (listed : Array Bool), listed.size = ds.length → Region.ready .any ops listed = [] → ∀ k, k < ds.length → listed.getD k false = true := by
    intro listed hsz hnil k
    induction k using Nat.strongRecOn with
    | _ k ih =>
      intro hk
      cases hL : listed.getD k false with
      | true => rfl
      | false =>
        exfalso
        have hok : ops[k]? = some (ops[k]'(by rw [pl.size]; exact hk)) := Array.getElem?_eq_getElem _
        have hm : k ∈ Region.ready .any ops listed := by
          rw [mem_ready]
          refine ⟨?_, _, hok, fun e he hb => ?_⟩
          · simp only [Array.getD_eq_getD_getElem?, Array.getElem?_eq_getElem (show k < listed.size by omega), Option.getD_some] at hL ⊢
            exact hL
          · have := pl.edges k _ hok e he hb
            exact ih e.on this (by omega)
        rw [hnil] at hm
        cases hm
  intro fuel
  induction fuel with
  | zero =>
    intro listed β I a w hsz inv hf
    have hall := nothing_left (L := fun i => listed.getD i false) hf
    refine ⟨?_, fin listed β I a w inv hall⟩
    cases hr : Region.ready .any ops listed with
    | nil => rfl
    | cons x xs =>
      exfalso
      have hx : x ∈ Region.ready .any ops listed := by rw [hr]; simp
      rw [mem_ready] at hx
      obtain ⟨h1, o, ho, _⟩ := hx
      have hlt : x < ops.size := (Array.getElem?_eq_some_iff.1 ho).1
      rw [pl.size] at hlt
      have := hall x hlt
      simp only [Array.getD_eq_getD_getElem?, Array.getElem?_eq_getElem (show x < listed.size by omega), Option.getD_some] at this h1
      rw [this] at h1; cases h1
  | succ fuel ih =>
    intro listed β I a w hsz inv hf
    refine ⟨fun hnil => fin listed β I a w inv (rdy listed hsz hnil), fun k hk => ?_⟩
    rw [mem_ready] at hk
    obtain ⟨h1, o, ho, hpre⟩ := hk
    have hlt : k < ops.size := (Array.getElem?_eq_some_iff.1 ho).1
    rw [pl.size] at hlt
    have hL : listed.getD k false = false := by
      simp only [Array.getD_eq_getD_getElem?, Array.getElem?_eq_getElem (show k < listed.size by omega), Option.getD_some] at h1 ⊢
      exact h1
    obtain ⟨hstep, hwant, hnamed⟩ := play pl inv hlt hL ho hpre
    have orel := pl.rel k hlt o ho
    have hls := listed_set (listed := listed) (k := k) (by omega)
    have hcount : ((List.range ds.length).filter fun i => !(listed.setIfInBounds k true).getD i false).length ≤ fuel := by
      have : ((List.range ds.length).filter fun i => !(listed.setIfInBounds k true).getD i false).length < ((List.range ds.length).filter fun i => !listed.getD i false).length := by
        refine filter_lt _ (fun x _ hx => ?_) k (List.mem_range.2 hlt) (by simp [hL]) ?_
        · have e := congrFun hls x
          simp only [setL] at e
          rw [e] at hx
          split at hx
          · cases hx
          · exact hx
        · have e := congrFun hls k
          simp only [setL, if_true] at e
          rw [e]; rfl
      omega
    -- what stands behind the step
    have rest : ∀ a' w', StepPost P en w0 I0 β I w (base + k) (curSt ds base T vv mm fun i => listed.getD i false) (curSt ds base T vv mm (setL (fun i => listed.getD i false) k)) a' w' →
        wpAnyIn (Fw r) n P .any ops Q fuel (listed.setIfInBounds k true) a' w' := by
      rintro a' w' ⟨β', I', m, hkeep, hle, S'⟩
      refine ih _ β' I' a' w' (by simpa using hsz) ?_ hcount
      rw [hls]
      have hnx := inv.nxle
      refine ⟨fun j oj hoj hj e he hb => ?_, inv.mono.trans m, fun id hid => (hkeep id (by omega) (by omega)).trans (inv.low id hid), S', by omega, fun j hj hLj => ?_, fun j hj hLj κ hκ => ?_⟩
      · simp only [setL] at hj ⊢
        split
        · rfl
        · split at hj
          · rename_i e1
            subst e1
            rw [ho] at hoj
            cases hoj
            exact hpre e he hb
          · exact inv.closed j oj hoj hj e he hb
      · simp only [setL] at hLj
        split at hLj
        · cases hLj
        · rename_i hne
          rw [hkeep (base + j) (by omega) (by omega)]
          exact inv.todo j hj hLj
      · have : β κ ≠ none := by
          simp only [setL] at hLj
          split at hLj
          · rename_i e1; subst e1; exact hnamed κ hκ
          · exact inv.done j hj hLj κ hκ
        cases hb : β κ with
        | none => exact absurd hb this
        | some bi => rw [m.bs κ bi hb]; simp
    obtain ⟨d0, hd0, hrel⟩ := orel
    have hcomp := hd0
    simp only [compOper, Option.bind_eq_bind, Option.bind_eq_some_iff, Option.some.injEq] at hd0
    obtain ⟨op, hop, g, hg, hd0'⟩ := hd0
    have hdg : (ds[k]).guard = g ∧ (ds[k]).dst = o.dst := by
      rw [← hd0'] at hrel
      rcases hrel with h | ⟨f, args, _, h⟩ <;> rw [h] <;> exact ⟨rfl, rfl⟩
    have hw := wanted_eq inv.srel.tm hg
    unfold wpOpIn
    rw [ho]
    simp only
    by_cases hwt : wanted (ds[k]).guard (curSt ds base T vv mm fun i => listed.getD i false).tm = true
    · rw [if_pos (by rw [hw, ← hdg.1]; exact hwt)]
      have hnx := inv.nxle
      exact (step_wp hcl ⟨_, hcomp, hrel⟩ inv.srel (inv.todo k hlt hL) (by omega) hwt hstep rest)
    · rw [if_neg (by rw [hw, ← hdg.1]; exact hwt)]
      unfold stepOp at hstep
      rw [if_neg hwt] at hstep
      simp only [Option.some.injEq] at hstep
      refine ⟨fun _ _ => trivial, rest _ _ ⟨β, I, .refl _ _ _, fun _ _ _ => rfl, ?_, ?_⟩⟩
      · rw [← hstep]; exact Nat.le_refl _
      · rw [← hstep]
        refine ⟨inv.srel.heap, ?_, inv.srel.fresh⟩
        rw [hdg.2]
        exact inv.srel.tm.put _ .undef

theorem compOpers_ok {pure' : Nat → Bool} {ops : Array Oper} : ∀ {os : List Oper} {ds : List DOper}, compOpers P pure' ops os = some ds →
    os.length = ds.length ∧ ∀ (i : Nat) (hi : i < os.length) (hi' : i < ds.length), compOper P pure' ops os[i] = some ds[i]
  | [], ds, h => by cases h; exact ⟨rfl, fun i hi => absurd hi (by simp)⟩
  | o :: os, ds, h => by
    simp only [compOpers, Option.bind_eq_bind, Option.bind_eq_some_iff, Option.some.injEq] at h
    obtain ⟨d, hd, ds', hds, rfl⟩ := h
    obtain ⟨hl, hi⟩ := compOpers_ok hds
    refine ⟨by simp [hl], fun i h1 h2 => ?_⟩
    cases i with
    | zero => exact hd
    | succ i => exact hi i (by simpa using h1) (by simpa using h2)

theorem strict_rel {pure' : Nat → Bool} {ops : Array Oper} {o : Oper} {d : DOper} (ds : List DOper) (bs : List Nat) (j : Nat) (h : compOper P pure' ops o = some d) : OpRel P pure' ops o (strict ds bs j d) := by
  refine ⟨d, h, ?_⟩
  unfold strict
  split
  · split
    · exact .inl rfl
    · rename_i f args hop _
      exact .inr ⟨f, args, hop, rfl⟩
  · exact .inl rfl

theorem strict_len (ds : List DOper) (bs : List Nat) : (ds.mapIdx (strict ds bs)).length = ds.length := by simp

theorem edges_ok : ∀ (os : List Oper) (n : Nat), allEdgesOk n os = true → ∀ (k : Nat) (o : Oper), os[k]? = some o → ∀ e ∈ o.after, Region.binds .any e = true → e.on < n + k
  | [], n, _, k, o, ho, e, he, hb => by simp at ho
  | x :: os, n, h, k, o, ho, e, he, hb => by
    simp only [allEdgesOk, Bool.and_eq_true] at h
    cases k with
    | zero =>
      simp only [List.getElem?_cons_zero, Option.some.injEq] at ho
      subst ho
      have := h.1
      simp only [edgesOk, List.all_eq_true, Bool.or_eq_true, Bool.not_eq_true', decide_eq_true_eq] at this
      rcases this e (by simpa using he) with h1 | h1
      · rw [hb] at h1; cases h1
      · omega
    | succ k =>
      simp only [List.getElem?_cons_succ] at ho
      have := edges_ok os (n + 1) h.2 k o ho e he hb
      omega

theorem mask_tame {cl : Caller} (ht : CallTame cl) (M : Mask) : CallTame (maskCl cl M) := by
  intro f args h nx v h' nx' hc
  unfold maskCl at hc
  split at hc
  · exact ht _ _ _ _ _ _ _ hc
  · simp only at hc
    split at hc
    · split at hc
      · rename_i v1 h1 n1 hcl
        split at hc
        · cases hc
          obtain ⟨h2, h3⟩ := ht _ _ _ _ _ _ _ hcl
          refine ⟨h2, fun id h0 hn => ?_⟩
          simp only
          split
          · exact h0
          · exact h3 id (by simp only [Heap.without]; split <;> simp [h0]) hn
        · cases hc
      · cases hc
    · cases hc

theorem runC_states {cl : Caller} {ops : List DOper} {chk : List (Nat × Nat)} {base : Nat} : ∀ (ds : List DOper) (k0 : Nat) (s s' : St) (l : List (List Nat × Mask)), runC cl ops chk base k0 ds s = some (s', l) →
    ∃ T : Nat → St, T 0 = s ∧ T ds.length = s' ∧ ∀ (k : Nat) (hk : k < ds.length), stepOp (maskCl cl (maskOf ops chk base (k0 + k) (T k).tm)) (base + (k0 + k)) ds[k] (T k) = some (T (k + 1)) ∧
      l.getD k ([], ([], [])) = (stepKeys ds[k] (T k).tm, maskOf ops chk base (k0 + k) (T k).tm)
  | [], k0, s, s', l, h => by cases h; exact ⟨fun _ => s, rfl, rfl, fun k hk => absurd hk (by simp)⟩
  | d :: ds, k0, s, s', l, h => by
    unfold runC at h
    split at h
    · rename_i s1 hs1
      split at h
      · rename_i s2 l2 h2
        cases h
        obtain ⟨T, h0, hn, hT⟩ := runC_states ds (k0 + 1) s1 s' l2 h2
        refine ⟨fun k => match k with | 0 => s | k + 1 => T k, rfl, hn, fun k hk' => ?_⟩
        cases k with
        | zero => simp only [Nat.add_zero, List.getElem_cons_zero]; exact ⟨by rw [hs1, h0], by simp⟩
        | succ k =>
          have := hT k (by simpa using hk')
          rw [show k0 + (k + 1) = k0 + 1 + k by omega]
          simpa using this
      · cases h
    · cases h

theorem maskOf_nil (ops : List DOper) (base k : Nat) (tm : List V) : maskOf ops [] base k tm = ([], []) := by
  unfold maskOf
  split <;> simp

theorem runC_of_runOps {cl : Caller} {ops : List DOper} {base : Nat} : ∀ (ds : List DOper) (k : Nat) (s s' : St), runOps cl (base + k) ds s = some s' → ∃ l, runC cl ops [] base k ds s = some (s', l)
  | [], k, s, s', h => by cases h; exact ⟨[], rfl⟩
  | d :: ds, k, s, s', h => by
    unfold runOps at h
    split at h
    · rename_i s1 hs1
      obtain ⟨l, hl⟩ := runC_of_runOps (ops := ops) (base := base) ds (k + 1) s1 s' h
      refine ⟨(stepKeys d s.tm, ([], [])) :: l, ?_⟩
      unfold runC
      rw [maskOf_nil]
      simp only [maskCl]
      rw [hs1]
      simp only [hl]
    · cases h

theorem draw_sound {r : Option Nat} {n : Nat} (hm : P.follows .mixedOrders = true) {cl : Caller} (hcl : CallSound P cl) (ht : CallTame cl) (hf : CallFrame cl) {pure' : Nat → Bool} {id : Nat} {ops : Array Oper} {ds0 es : List DOper}
    (hc : compOpers P pure' ops ops.toList = some ds0) (hes : es = ds0.mapIdx (strict ds0 (befs ops.toList [] ops.toList))) (hed : allEdgesOk 0 ops.toList = true)
    (hord : ordered es (befs ops.toList [] ops.toList) = true) (hk : (es.all fun d => d.op.constsOk) = true) {s s' : St} {l : List (List Nat × Mask)} {chk : List (Nat × Nat)}
    (hchks : chk = toCheck es (befs ops.toList [] ops.toList)) (hchk : chk.all (pairOk es l) = true)
    (hr : runC cl es chk s.nx 0 es { s with nx := s.nx + es.length } = some (s', l)) {β : Nat → Option BI} {I : Nat → Prop} {a : Act} {w : World} (S : SRel P en w0 I0 β I s a w) {Q : Exit → Act → World → Prop}
    (hQ : ∀ a' w', RegPost P en w0 I0 β I w s.nx s s' a' w' → Q .normal a' w') : (Code.region id ops true).wpIn (Fw r) n P Q a w := by
  obtain ⟨hl, hi⟩ := compOpers_ok hc
  have hle : es.length = ds0.length := by rw [hes]; simp
  have hsz : ops.size = es.length := by rw [hle, ← hl]; simp
  obtain ⟨T, hT0, hTn, hT⟩ := runC_states es 0 _ s' l hr
  have gd : ∀ m (hm : m < es.length), es.getD m default = es[m] := fun m hm => by simp [hm]
  have hstep : ∀ (k : Nat) (hk : k < es.length), stepOp (maskCl cl (maskOf es chk s.nx k (T k).tm)) (s.nx + k) es[k] (T k) = some (T (k + 1)) := fun k hk' => by
    have := (hT k hk').1
    rwa [Nat.zero_add] at this
  have hkeys : ∀ (k : Nat) (hk : k < es.length), l.getD k ([], ([], [])) = (stepKeys es[k] (T k).tm, maskOf es chk s.nx k (T k).tm) := fun k hk' => by
    have := (hT k hk').2
    rwa [Nat.zero_add] at this
  have heff : ∀ k, ∃ v, ∀ (hk : k < es.length), StepEff cl (maskOf es chk s.nx k (T k).tm) (s.nx + k) es[k] (T k) (T (k + 1)) v := fun k => by
    by_cases h : k < es.length
    · obtain ⟨v, hv⟩ := step_eff hf (M := maskOf es chk s.nx k (T k).tm) (fun h5 => by unfold maskOf; rw [gd k h, if_neg h5]) (hstep k h)
      exact ⟨v, fun _ => hv⟩
    · exact ⟨.undef, fun h' => absurd h' h⟩
  obtain ⟨vv, hvv⟩ := Classical.axiomOfChoice heff
  have hnone : ∀ id, s.nx ≤ id → s.hp id = none := fun id hid => by
    cases hx : s.hp id with
    | none => rfl
    | some x =>
      obtain ⟨bi, hb, _⟩ := S.heap.live _ _ hx
      rw [S.fresh id hid] at hb; cases hb
  have hnx : ∀ k, k ≤ es.length → s.nx + es.length ≤ (T k).nx := by
    intro k
    induction k with
    | zero => intro _; rw [hT0]; exact Nat.le_refl _
    | succ k ih => intro hk'; exact Nat.le_trans (ih (by omega)) (step_tame (mask_tame ht _) (hstep k (by omega))).1
  have hfree : ∀ (k j : Nat), k ≤ j → j < es.length → (T k).hp (s.nx + j) = none := by
    intro k
    induction k with
    | zero => intro j _ _; rw [hT0]; exact hnone _ (by omega)
    | succ k ih =>
      intro j hkj hj
      refine (step_tame (mask_tame ht _) (hstep k (by omega))).2 _ (ih j (by omega) hj) (by omega) ?_
      have := hnx k (by omega)
      omega
  have pl : Plan P cl pure' ops s.nx es T vv (fun k => maskOf es chk s.nx k (T k).tm) := by
    refine ⟨hsz, fun k hk' o ho => ?_, fun k hk' => hvv k hk', fun k o ho e he hb => ?_, fun k hk' => ?_, hfree, hnx, fun i k hik hk' => ?_⟩
    · have hko : k < ops.toList.length := by simp [hsz, hk']
      have hd := hi k hko (by omega)
      have e1 : ops.toList[k] = o := by
        have : ops.toList[k]? = some o := by simpa using ho
        rw [List.getElem?_eq_getElem hko] at this
        exact Option.some.inj this
      rw [e1] at hd
      have e2 : es[k] = strict ds0 (befs ops.toList [] ops.toList) k (ds0[k]'(by omega)) := by subst hes; simp
      rw [e2]
      exact strict_rel _ _ _ hd
    · have := edges_ok ops.toList 0 hed k o (by simpa using ho) e he hb
      omega
    · exact (List.all_eq_true.1 hk) _ (List.getElem_mem hk')
    · cases hbit : ((befs ops.toList [] ops.toList).getD k 0).testBit i with
      | true => exact .inl rfl
      | false =>
        right
        have gi : es.getD i default = es[i]'(by omega) := gd i (by omega)
        have gk : es.getD k default = es[k] := gd k hk'
        simp only [ordered, List.all_eq_true, List.mem_range] at hord
        have h1 := hord k hk' i hik
        rw [hbit, gi, gk, Bool.or_false, Bool.not_eq_true'] at h1
        simp only [bound, Bool.or_eq_false_iff] at h1
        refine ⟨h1.1, h1.2, fun hmc => ?_⟩
        have hmem : (i, k) ∈ chk := by
          rw [hchks]
          simp only [toCheck, List.mem_flatMap, List.mem_range, List.mem_filterMap]
          exact ⟨k, hk', i, hik, by rw [gi, gk, hmc, hbit]; rfl⟩
        simp only [List.all_eq_true] at hchk
        have h2 := hchk (i, k) hmem
        unfold pairOk at h2
        simp only [gi, gk, hkeys i (by omega), hkeys k hk'] at h2
        have sub : ∀ (op : DOp) (a : List Nat) (M : Mask), keptFrom op a M = true → ∀ κ, κ ∈ a → κ ∈ M.1 ∨ (op.cls = 2 ∧ κ ∈ M.2) := fun op a M h κ hκ => by
          simp only [keptFrom, List.all_eq_true] at h
          have := h κ hκ
          simpa [DOp.reads] using this
        refine ⟨fun h5 => ?_, fun h5 => ?_, fun h5 h5' => ?_⟩
        · rw [if_pos h5] at h2
          refine ⟨sub _ _ _ h2, ?_⟩
          unfold maskOf
          rw [gi, if_pos h5]
          simp only [List.mem_flatMap]
          exact ⟨(i, k), hmem, by simp⟩
        · have hne : (es[i]'(by omega)).op.cls ≠ 5 := fun h => by
            have := h1.2
            simp [clash, h, h5] at this
          rw [if_neg hne, if_pos h5] at h2
          refine ⟨sub _ _ _ h2, ?_⟩
          unfold maskOf
          rw [gk, if_pos h5]
          simp only [List.mem_flatMap]
          exact ⟨(i, k), hmem, by simp [show i ≠ k by omega]⟩
        · rw [if_neg h5, if_neg h5'] at h2
          exact h2
  refine wpIn_region_any hm ?_
  obtain ⟨R1, m1⟩ := S.heap.same (w' := { w with drawn := w.drawn + 1 }) rfl rfl rfl rfl
  have inv0 : PInv P en w0 I0 ops s.nx es T vv (fun k => maskOf es chk s.nx k (T k).tm) β I { w with drawn := w.drawn + 1 } (fun i => (Array.replicate ops.size false).getD i false) β I a { w with drawn := w.drawn + 1 } := by
    have hfalse : ∀ k, (Array.replicate ops.size false).getD k false = false := fun k => by
      simp only [Array.getD_eq_getD_getElem?, Array.getElem?_replicate]
      split <;> rfl
    have hcur : curSt es s.nx T vv (fun k => maskOf es chk s.nx k (T k).tm) (fun i => (Array.replicate ops.size false).getD i false) = T 0 := curSt_none fun k _ => hfalse k
    refine ⟨fun k o _ hk' => (by rw [hfalse k] at hk'; cases hk'), .refl _ _ _, fun _ _ => rfl, ?_, ?_, fun k hk' _ => S.fresh _ (by omega), fun k _ hk' => (by rw [hfalse k] at hk'; cases hk')⟩
    · rw [hcur, hT0]
      exact ⟨R1, S.tm.mono m1, fun id hid => S.fresh id (by simp only at hid; omega)⟩
    · rw [hcur, hT0]; exact Nat.le_refl _
  refine draw_core hcl pl (Q := Q) (fun β' I' a' w' m hlow S' => ?_) ops.size _ β I a _ (by simp [hsz]) inv0 ?_
  · refine hQ _ _ ⟨β', I', m1.trans m, hlow, ?_, ?_⟩
    · have := hnx es.length (Nat.le_refl _)
      rw [hTn] at this
      omega
    · rw [hTn] at S'; exact S'
  · have : ((List.range es.length).filter fun i => !(Array.replicate ops.size false).getD i false).length ≤ (List.range es.length).length := List.length_filter_le _ _
    simp only [List.length_range] at this
    omega

theorem text_sound {r : Option Nat} {n : Nat} {cl : Caller} (hcl : CallSound P cl) {pure' : Nat → Bool} {id : Nat} {ops : Array Oper} {ds : List DOper} (hc : compOpers P pure' ops ops.toList = some ds) {s s' : St}
    (hr : runOps cl s.nx ds { s with nx := s.nx + ds.length } = some s') {β : Nat → Option BI} {I : Nat → Prop} {a : Act} {w : World} (S : SRel P en w0 I0 β I s a w) {Q : Exit → Act → World → Prop}
    (hQ : ∀ a' w', RegPost P en w0 I0 β I w s.nx s s' a' w' → Q .normal a' w') : (Code.region id ops false).wpIn (Fw r) n P Q a w := by
  obtain ⟨hl, hi⟩ := compOpers_ok hc
  refine wpIn_region_list ?_
  refine seq_sound (w0 := w0) (I0 := I0) (lo := s.nx) hcl ops.toList ds s.nx _ s' β I a w hl (fun i h1 h2 => ⟨_, hi i h1 h2, .inl rfl⟩) hr ⟨S.heap, S.tm, fun id hid => S.fresh id (by simp only at hid; omega)⟩ (Nat.le_refl _)
    (by simp only; omega) (fun j hj => ⟨by simp only; omega, S.fresh _ (by omega)⟩) (fun a' w' hp => ?_)
  obtain ⟨β', I', m, hlow, hle, S'⟩ := hp
  exact hQ _ _ ⟨β', I', m, hlow, by simp only at hle; omega, S'⟩

end
end Go.Dv
