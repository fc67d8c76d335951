/- The code of a function; functions that call functions: the D machine's runs are the model's. No condition. -/
import Derived.Test.YtjnllnigogpagadDvV
namespace Go.Dv

section
variable {P : Program} {en : Nat → Prop} {w0 : World} {I0 : Nat → Prop}

def exOf : Ex → Exit
  | .normal => .normal
  | .exit i => .exit i
  | .ret => .ret

/-- A runner that is true to a piece of code. -/
def RunSound (en : Nat → Prop) (rd : Option Nat) (k : Nat) (P : Program) (w0 : World) (I0 : Nat → Prop) (c : Code) (r : Runner) : Prop :=
  ∀ (s : St) (ex : Ex) (s' : St) (β : Nat → Option BI) (I : Nat → Prop) (a : Act) (w : World) (Q : Exit → Act → World → Prop), r s = some (ex, s') → SRel P en w0 I0 β I s a w →
    (∀ a' w', RegPost P en w0 I0 β I w s.nx s s' a' w' → Q (exOf ex) a' w') → c.wpIn (Fw rd) k P Q a w

theorem RegPost.next {β : Nat → Option BI} {I : Nat → Prop} {w w1 : World} {s s1 s2 : St} {β1 : Nat → Option BI} {I1 : Nat → Prop} (m : Mono β I w β1 I1 w1)
    (hlow : ∀ id, id < s.nx → β1 id = β id) (hle : s.nx ≤ s1.nx) {a2 : Act} {w2 : World} (h : RegPost P en w0 I0 β1 I1 w1 s1.nx s1 s2 a2 w2) : RegPost P en w0 I0 β I w s.nx s s2 a2 w2 := by
  obtain ⟨β2, I2, m2, hlow2, hle2, S2⟩ := h
  exact ⟨β2, I2, m.trans m2, fun id hid => (hlow2 id (by omega)).trans (hlow id hid), Nat.le_trans hle hle2, S2⟩

theorem loop_sound {rd : Option Nat} {k : Nat} {c : Code} {r : Runner} (hr : RunSound en rd k P w0 I0 c r) (n : Nat) : RunSound en rd k P w0 I0 (.loop c) (fun s => loopN r n s) := by
  intro s ex s' β I a w Q h S hQ
  refine wpIn_loop_rounds n ?_
  induction n generalizing s β I a w with
  | zero => simp [loopN] at h
  | succ n ih =>
    rw [roundsIn_succ]
    simp only [loopN] at h
    cases hrs : r s with
    | none => rw [hrs] at h; cases h
    | some p =>
      obtain ⟨ex1, s1⟩ := p
      rw [hrs] at h
      refine hr s ex1 s1 β I a w _ hrs S (fun a1 w1 hp => ?_)
      cases ex1 with
      | normal =>
        simp only at h
        obtain ⟨β1, I1, m, hlow, hle, S1⟩ := hp
        simp only [exOf, Exit.then]
        exact ih s1 β1 I1 a1 w1 h S1 (fun a2 w2 hp2 => hQ a2 w2 (hp2.next m hlow hle))
      | exit i => simp only [Option.some.injEq, Prod.mk.injEq] at h; obtain ⟨rfl, rfl⟩ := h; exact hQ _ _ hp
      | ret => simp only [Option.some.injEq, Prod.mk.injEq] at h; obtain ⟨rfl, rfl⟩ := h; exact hQ _ _ hp

/-- The slots of a round. -/
theorem setAll_rel {β : Nat → Option BI} {I : Nat → Prop} {w : World} : ∀ (ps : List Nat) (xs : List V) (ys : List Value) (tm : List V) (ts : Array Value), CRel β I w xs ys → ts.size = tm.length →
    (∀ (i : Nat) (h : i < tm.length) (h' : i < ts.size), VRel β I w tm[i] ts[i]) →
    ((ps.zip ys).foldl (fun ts (p : Nat × Value) => ts.setIfInBounds p.1 p.2) ts).size = (setAll ps xs tm).length ∧
      ∀ (i : Nat) (h : i < (setAll ps xs tm).length) (h' : i < ((ps.zip ys).foldl (fun ts (p : Nat × Value) => ts.setIfInBounds p.1 p.2) ts).size),
        VRel β I w (setAll ps xs tm)[i] ((ps.zip ys).foldl (fun ts (p : Nat × Value) => ts.setIfInBounds p.1 p.2) ts)[i]
  | [], xs, ys, tm, ts, hc, hl, hv => by
    cases xs <;> exact ⟨hl, hv⟩
  | p :: ps, [], ys, tm, ts, hc, hl, hv => by
    have : ys = [] := List.length_eq_zero_iff.1 hc.1
    subst this
    exact ⟨hl, hv⟩
  | p :: ps, x :: xs, [], tm, ts, hc, hl, hv => by
    have := hc.1; simp at this
  | p :: ps, x :: xs, y :: ys, tm, ts, hc, hl, hv => by
    simp only [List.zip_cons_cons, List.foldl_cons, setAll]
    refine setAll_rel ps xs ys (tm.set p x) (ts.setIfInBounds p y) ⟨by have := hc.1; simpa using this, fun i hi hi' => ?_⟩ (by simp [hl]) (fun i hi hi' => ?_)
    · have := hc.2 (i + 1) (by simpa using hi) (by simpa using hi')
      simpa using this
    · rw [List.getElem_set, Array.getElem_setIfInBounds (by simpa using hi')]
      split
      · exact hc.2 0 (by simp) (by simp)
      · exact hv i (by simpa using hi) (by simpa using hi')

theorem rangeFunc_sound {k : Nat} {cl : Caller} (hcl : CallSound P cl) {g : Operand} {dg : DOpnd} (hdg : compOpnd g = some dg) {ps : Array Tmp} {x y : Code} {dx dy : DCode}
    (hcode : ∃ pure', compCode P pure' x = some dx ∧ compCode P pure' y = some dy ∧ dx.flat = true ∧ dy.flat = true) {lp : Runner → Runner} {s : St} {ex : Ex} {s' : St} {β : Nat → Option BI} {I : Nat → Prop} {a : Act} {w : World}
    {Q : Exit → Act → World → Prop} (h : exec cl lp (.rangeFunc dg ps.toList dx dy) s = some (ex, s')) (S : SRel P en w0 I0 β I s a w)
    (hQ : ∀ a' w', RegPost P en w0 I0 β I w s.nx s s' a' w' → Q (exOf ex) a' w') : (Code.rangeFunc g ps x y).wpIn (Fw none) k P Q a w := by
  simp only [exec] at h
  split at h
  · rename_i f caps hfn
    split at h
    · rename_i u h1 n hcall
      obtain ⟨hcb, hsound⟩ := hcl.fn _ _ _ _ _ _ _ hcall
      have hfv : VRel β I w (.fn f caps) (a.eval g) := by rw [← hfn]; exact S.tm.opnd _ _ hdg
      generalize hfa : a.eval g = fa at hfv
      cases hfv with
      | fn _ _ xs hn hvs =>
        refine wpIn_rangeFunc (fun fn _ => ?_)
        -- the two blocks
        obtain ⟨Ra, ma⟩ := S.heap.extra (.deferred (some [])) (fun _ _ _ e => by cases e)
        let rec0 : Loop := { state := .ready, pending := none, fn := fn, tmps := a.tmps, params := ps, assign := x, body := y, defers := w.heap.size }
        let bi : BI := ⟨w.heap.size + 1, 0, 0, 0⟩
        obtain ⟨β1, mb, hid, hbi, R1⟩ := Ra.make (w' := (w.alloc (.deferred (some []))).alloc (.loop rec0)) (S.fresh s.nx (Nat.le_refl _)) (.loop rec0) rfl rfl rfl rfl bi (World.size_alloc ..).symm (.loop .ready s.tm ps.toList dx dy)
          (fun β' m => ⟨rec0, heap_alloc2_new w _ _, ⟨rfl, rfl⟩, rfl, hcode, S.tm.size, fun i hi hi' => ((S.tm.rel i hi hi').mono ma).mono m⟩)
        have m1 := ma.trans mb
        have hargs : CRel β1 (fun b => I b ∨ b = w.heap.size) ((w.alloc (.deferred (some []))).alloc (.loop rec0)) (.yield s.nx :: caps) (#[Value.func (.yield (w.heap.size + 1)) #[] #[]] ++ xs).toList := by
          rw [Array.toList_append]
          exact .cons (.yield s.nx bi hbi) ((CRel.ofArray hn hvs).mono m1)
        have hfresh1 : ∀ id, s.nx + 1 ≤ id → β1 id = none := fun id hle => by rw [hid id (by omega)]; exact S.fresh id (by omega)
        have hcalls := hsound w0 I0 β1 _ _ _ R1 hfresh1 hargs
        generalize hw1 : ((w.alloc (.deferred (some []))).alloc (.loop rec0)) = w1 at *
        have henter : (Instr.enterLoop fn a.tmps ps x y (Fw none).round).run P w = .ok (w.heap.size + 1, [markOf w.heap.size]) w1 := by rw [← hw1]; exact run_enterLoop_outer ..
        let d : Deferred := { target := .fn (.func f) xs, args := #[Value.func (.yield (w.heap.size + 1)) #[] #[]] }
        have hres : (resolve a.eval (rangeCall g (w.heap.size + 1)) 0).run P w1 = .ok d w1 := by
          have e : (resolve a.eval (rangeCall g (w.heap.size + 1)) 0) = Deferred.ofValue (a.eval g) #[Value.func (.yield (w.heap.size + 1)) #[] #[]] := by
            simp [resolve, Act.eval]
          rw [e, hfa]
          simp [Deferred.ofValue, d]
        have hinv : (invoke d.target d.args).run P w1 = .ok (.enter f (#[Value.func (.yield (w.heap.size + 1)) #[] #[]] ++ xs)) w1 := by
          simp [invoke, d, callFunc_run hcb]
        refine ⟨w.heap.size + 1, [markOf w.heap.size], w1, d, w1, f, #[Value.func (.yield (w.heap.size + 1)) #[] #[]] ++ xs, w1, henter, hres, fun _ _ => trivial, hinv, fun hh => by simp [Fw_depth] at hh, callsIn_Fw (hcalls.mono ?_)⟩
        rintro e w3 ⟨v, β', I', rfl, m3, R3, hfresh3, hkeep3, hle3, hv3⟩
        -- the record, as the function has left it
        have fin : ∀ st tm qs ax bx, h1 s.nx = some (.loop st tm qs ax bx) → st ≠ .busy → (∀ r, LStRel r st → r.pending = jumpOf ex) → s' = { s with hp := h1.put s.nx none, nx := n } →
            rangePost (Fw none) k P (w.heap.size + 1) Q { a with defers := [markOf w.heap.size] ++ a.defers } (.returned v) w3 := by
          intro st tm qs ax bx hb hnb hpend hs'
          obtain ⟨bi', hbi', hrel⟩ := R3.live _ _ hb
          rw [m3.bs _ _ hbi] at hbi'
          cases hbi'
          obtain ⟨r, hr1, hr2, _⟩ := hrel
          have hstate : r.state ≠ .busy := by
            cases st with
            | ready => rw [hr2.1]; simp
            | busy => exact absurd rfl hnb
            | done ex => rw [hr2.1]; simp
          have hlt : w.heap.size + 1 < w3.heap.size := (R3.own _ _ (m3.bs _ _ hbi)).2.1
          obtain ⟨R4, m4⟩ := R3.kill (w' := w3.putObj (w.heap.size + 1) (.loop { r with state := .exhausted })) (m3.bs _ _ hbi) hb (by simp) (fun k hk => World.putObj_heap_other hk)
            (fun cs ty fr hh => by rw [show bi.blk = w.heap.size + 1 from rfl, World.putObj_heap_same hlt] at hh; cases hh) rfl rfl rfl
          have mall := m1.trans (m3.trans m4)
          have hw0 : (w3.putObj (w.heap.size + 1) (.loop { r with state := .exhausted })).heap[w.heap.size]? = some (.deferred (some [])) := by
            rw [(m3.trans m4).heap _ (.inr rfl), ← hw1]
            exact heap_alloc2_old w _ _
          have hpost : RegPost P en w0 I0 β I w s.nx s s' { a with defers := [markOf w.heap.size] ++ a.defers } (w3.putObj (w.heap.size + 1) (.loop { r with state := .exhausted })) := by
            refine ⟨β', I', mall, fun i0 hi0 => (hkeep3 i0 (by omega)).trans (hid i0 (by omega)), by rw [hs']; show s.nx ≤ n; omega, ?_⟩
            rw [hs']
            refine ⟨R4, ⟨S.tm.size, fun i hi hi' => (S.tm.rel i hi hi').mono mall, ?_, fun b hb => mall.is b (S.tm.base b hb)⟩, hfresh3⟩
            obtain ⟨rs, q1, q2, q3⟩ := S.tm.defers.mono mall.is mall.heap
            refine ⟨w.heap.size :: rs, by simp [q1], List.nodup_cons.2 ⟨fun hm => ?_, q2⟩, fun r' hr' => ?_⟩
            · obtain ⟨rs0, p1, _, p3⟩ := S.tm.defers
              have : rs = rs0 := by
                have e1 : rs.map markOf = rs0.map markOf := q1.symm.trans p1
                exact (List.map_inj_right (f := markOf) (fun x y e => by simp only [markOf, Deferred.mk.injEq, Target.collected.injEq, and_true] at e; exact e)).1 e1
              rw [this] at hm
              exact Nat.lt_irrefl _ (S.heap.imm _ (p3 _ hm).2.1).2
            · rcases List.mem_cons.1 hr' with rfl | hr'
              · exact ⟨fun hb => Nat.lt_irrefl _ (S.heap.imm _ (S.tm.base _ hb)).2, (m3.trans m4).is _ (.inr rfl), hw0⟩
              · exact q3 r' hr'
          have hp := hpend r hr2
          have hend := run_endLoop (P := P) hr1 hstate
          generalize hw4 : w3.putObj (w.heap.size + 1) (.loop { r with state := .exhausted }) = w4 at hpost hend
          rw [hp] at hend
          refine ⟨jumpOf ex, w4, hend, ?_⟩
          cases ex with
          | normal => exact hQ _ _ hpost
          | exit i => exact wpIn_exit (hQ _ _ hpost)
          | ret => exact wpIn_ret (hQ _ _ hpost)
        split at h
        · rename_i tm qs ax bx hb
          simp only [Option.some.injEq, Prod.mk.injEq] at h
          obtain ⟨rfl, rfl⟩ := h
          exact fin _ _ _ _ _ hb (by simp) (fun r hr => hr.2) rfl
        · rename_i ex1 tm qs ax bx hb
          simp only [Option.some.injEq, Prod.mk.injEq] at h
          obtain ⟨rfl, rfl⟩ := h
          exact fin _ _ _ _ _ hb (by simp) (fun r hr => hr.2) rfl
        · cases h
    · cases h
  · cases h

theorem exec_sound {rd : Option Nat} {k : Nat} (hm : P.follows .mixedOrders = true) {cl : Caller} (hcl : CallSound P cl) (ht : CallTame cl) (hf : CallFrame cl) {pure' : Nat → Bool} (n : Nat) :
    ∀ (c : Code) (d : DCode), compCode P pure' c = some d → (rd = none ∨ d.flat = true) → RunSound en rd k P w0 I0 c (exec cl (fun b => loopN b n) d) := by
  intro c
  induction c with
  | skip =>
    intro d hc hfl s ex s' β I a w Q h S hQ
    cases hc
    cases h
    exact wpIn_skip (hQ _ _ ⟨β, I, .refl _ _ _, fun _ _ => rfl, Nat.le_refl _, S⟩)
  | region id ops draw =>
    intro d hc hfl s ex s' β I a w Q h S hQ
    simp only [compCode] at hc
    split at hc
    · rename_i ds hds
      split at hc
      · rename_i hdraw
        subst hdraw
        split at hc
        · rename_i hcond
          simp only [Bool.and_eq_true] at hcond
          split at hc
          · rename_i hnil
            cases hc
            simp only [exec] at h
            split at h
            · rename_i s1 hs1
              cases h
              obtain ⟨l, hl⟩ := runC_of_runOps (ops := ds.mapIdx (strict ds (befs ops.toList [] ops.toList))) (base := s.nx) _ 0 _ _ hs1
              exact draw_sound hm hcl ht hf hds rfl hcond.1.1 hcond.1.2 hcond.2 hnil.symm rfl hl S hQ
            · cases h
          · cases hc
            simp only [exec] at h
            split at h
            · rename_i s1 l hs1
              split at h
              · rename_i hchk
                cases h
                exact draw_sound hm hcl ht hf hds rfl hcond.1.1 hcond.1.2 hcond.2 rfl hchk hs1 S hQ
              · cases h
            · cases h
        · cases hc
      · rename_i hdraw
        have : draw = false := by simpa using hdraw
        subst this
        cases hc
        simp only [exec] at h
        split at h
        · rename_i s1 hs1
          cases h
          exact text_sound hcl hds hs1 S hQ
        · cases h
    · cases hc
  | seq x y ihx ihy =>
    intro d hc hfl s ex s' β I a w Q h S hQ
    simp only [compCode, Option.bind_eq_bind, Option.bind_eq_some_iff, Option.some.injEq] at hc
    obtain ⟨dx, hdx, dy, hdy, rfl⟩ := hc
    have hfx : rd = none ∨ dx.flat = true := hfl.imp id (fun h => by simp only [DCode.flat, Bool.and_eq_true] at h; exact h.1)
    have hfy : rd = none ∨ dy.flat = true := hfl.imp id (fun h => by simp only [DCode.flat, Bool.and_eq_true] at h; exact h.2)
    simp only [exec] at h
    refine wpIn_seq ?_
    cases hx : exec cl (fun b => loopN b n) dx s with
    | none => rw [hx] at h; cases h
    | some p =>
      obtain ⟨ex1, s1⟩ := p
      rw [hx] at h
      refine ihx dx hdx hfx s ex1 s1 β I a w _ hx S (fun a1 w1 hp => ?_)
      cases ex1 with
      | normal =>
        simp only at h
        obtain ⟨β1, I1, m, hlow, hle, S1⟩ := hp
        simp only [exOf, Exit.then]
        exact ihy dy hdy hfy s1 ex s' β1 I1 a1 w1 Q h S1 (fun a2 w2 hp2 => hQ a2 w2 (hp2.next m hlow hle))
      | exit i => simp only [Option.some.injEq, Prod.mk.injEq] at h; obtain ⟨rfl, rfl⟩ := h; exact hQ _ _ hp
      | ret => simp only [Option.some.injEq, Prod.mk.injEq] at h; obtain ⟨rfl, rfl⟩ := h; exact hQ _ _ hp
  | cond c x y ihx ihy =>
    intro d hc hfl s ex s' β I a w Q h S hQ
    simp only [compCode, Option.bind_eq_bind, Option.bind_eq_some_iff, Option.some.injEq] at hc
    obtain ⟨dc, hdc, dx, hdx, dy, hdy, rfl⟩ := hc
    have hfx : rd = none ∨ dx.flat = true := hfl.imp id (fun h => by simp only [DCode.flat, Bool.and_eq_true] at h; exact h.1)
    have hfy : rd = none ∨ dy.flat = true := hfl.imp id (fun h => by simp only [DCode.flat, Bool.and_eq_true] at h; exact h.2)
    simp only [exec] at h
    have hv := S.tm.opnd _ _ hdc
    generalize hec : a.eval c = x at hv
    split at h
    · rename_i he
      rw [he] at hv
      cases hv with
      | d _ _ hv => cases hv; exact wpIn_cond_true hec (ihx dx hdx hfx s ex s' β I a w Q h S hQ)
    · rename_i he
      rw [he] at hv
      cases hv with
      | d _ _ hv => cases hv; exact wpIn_cond_false hec (ihy dy hdy hfy s ex s' β I a w Q h S hQ)
    · cases h
  | block id c ih =>
    intro d hc hfl s ex s' β I a w Q h S hQ
    simp only [compCode, Option.map_eq_some_iff] at hc
    obtain ⟨d', hd', rfl⟩ := hc
    simp only [exec] at h
    refine wpIn_block ?_
    cases hx : exec cl (fun b => loopN b n) d' s with
    | none => rw [hx] at h; cases h
    | some p =>
      obtain ⟨ex1, s1⟩ := p
      rw [hx] at h
      refine ih d' hd' hfl s ex1 s1 β I a w _ hx S (fun a1 w1 hp => ?_)
      cases ex1 with
      | normal => simp only [Option.some.injEq, Prod.mk.injEq] at h; obtain ⟨rfl, rfl⟩ := h; exact hQ _ _ hp
      | exit i =>
        simp only at h
        simp only [exOf, Exit.inBlock]
        split at h
        · rename_i e; simp only [Option.some.injEq, Prod.mk.injEq] at h; obtain ⟨rfl, rfl⟩ := h; rw [if_pos e]; exact hQ _ _ hp
        · rename_i e; simp only [Option.some.injEq, Prod.mk.injEq] at h; obtain ⟨rfl, rfl⟩ := h; rw [if_neg e]; exact hQ _ _ hp
      | ret => simp only [Option.some.injEq, Prod.mk.injEq] at h; obtain ⟨rfl, rfl⟩ := h; exact hQ _ _ hp
  | loop c ih =>
    intro d hc hfl s ex s' β I a w Q h S hQ
    simp only [compCode, Option.map_eq_some_iff] at hc
    obtain ⟨d', hd', rfl⟩ := hc
    simp only [exec] at h
    exact loop_sound (ih d' hd' hfl) n s ex s' β I a w Q h S hQ
  | exit id =>
    intro d hc hfl s ex s' β I a w Q h S hQ
    cases hc
    cases h
    exact wpIn_exit (hQ _ _ ⟨β, I, .refl _ _ _, fun _ _ => rfl, Nat.le_refl _, S⟩)
  | ret =>
    intro d hc hfl s ex s' β I a w Q h S hQ
    cases hc
    cases h
    exact wpIn_ret (hQ _ _ ⟨β, I, .refl _ _ _, fun _ _ => rfl, Nat.le_refl _, S⟩)
  | rangeFunc g ps x y _ _ =>
    intro d hc hfl s ex s' β I a w Q h S hQ
    simp only [compCode, Option.bind_eq_bind, Option.bind_eq_some_iff] at hc
    obtain ⟨dg, hdg, dx, hdx, dy, hdy, hc⟩ := hc
    split at hc
    · rename_i hfxy
      cases hc
      rcases hfl with rfl | hfl
      · exact rangeFunc_sound hcl hdg ⟨pure', hdx, hdy, by simpa using (Bool.and_eq_true .. ▸ hfxy : dx.flat = true ∧ dy.flat = true)⟩ h S hQ
      · simp [DCode.flat] at hfl
    · cases hc; cases h
  | scope c _ => intro d hc hfl s ex s' β I a w Q h; cases hc; cases h
  | label l => intro d hc hfl s ex s' β I a w Q h; cases hc; cases h
  | goto l => intro d hc hfl s ex s' β I a w Q h; cases hc; cases h
  | refuse w => intro d hc hfl s ex s' β I a w Q h; cases hc; cases h

/-! ### Results -/

theorem loadVar_run {t : TypeId} {p x : Value} {w : World} (h : (Instr.loadAt t p).run P w = .ok x w) : (do loadVar t (← asAddr p)).run P w = .ok x w := by
  unfold Instr.loadAt at h
  cases p with
  | pointer a =>
    cases a with
    | none => simp [Instr.sureAddr] at h
    | some a => simpa [asAddr, Instr.sureAddr] using h
  | _ => simp [Instr.sureAddr] at h

def resOne (tmps : Array Value) : ResultVar → Sem Value := fun
  | .tmp t => pure (tmps.getD t undef)
  | .cell a t => do loadVar t (← asAddr (tmps.getD a undef))

theorem results_run {β : Nat → Option BI} {I : Nat → Prop} {w : World} {h : Heap} {tm : List V} {a : Act} (R : Rel P w0 I0 β I h w) (t : TmRel en β I w tm a) :
    ∀ (rs : List ResultVar) (ds : List DRes) (vs : List V), compRes P rs = some ds → freezeList (resV h tm) ds = some vs →
      ∃ xs : List Value, (rs.mapM (resOne a.tmps)).run P w = .ok xs w ∧ CRel β I w vs xs
  | [], ds, vs, hc, hv => by
    cases hc
    cases hv
    exact ⟨[], by simp, ⟨rfl, fun i hi => absurd hi (by simp)⟩⟩
  | r :: rs, ds, vs, hc, hv => by
    have one : ∀ (d : DRes) (ds' : List DRes), ds = d :: ds' → compRes P rs = some ds' → (∀ v, resV h tm d = some v → ∃ x, (resOne a.tmps r).run P w = .ok x w ∧ VRel β I w v x) →
        ∃ xs : List Value, ((r :: rs).mapM (resOne a.tmps)).run P w = .ok xs w ∧ CRel β I w vs xs := by
      intro d ds' hds hds' hd
      subst hds
      simp only [freezeList] at hv
      split at hv
      · rename_i v hvv
        split at hv
        · rename_i vs' hvs'
          cases hv
          obtain ⟨x, hx, hvx⟩ := hd v hvv
          obtain ⟨xs, hxs, hc'⟩ := results_run R t rs ds' vs' hds' hvs'
          refine ⟨x :: xs, by simp [List.mapM_cons, hx, hxs], ⟨by simp [hc'.1], fun i h1 h2 => ?_⟩⟩
          cases i with
          | zero => exact hvx
          | succ i => exact hc'.2 i (by simpa using h1) (by simpa using h2)
        · cases hv
      · cases hv
    cases r with
    | tmp k =>
      simp only [compRes, Option.map_eq_some_iff] at hc
      obtain ⟨ds', hds', rfl⟩ := hc
      refine one _ _ rfl hds' (fun v hv' => ?_)
      cases hv'
      exact ⟨_, by simp [resOne], t.getD k⟩
    | cell k ty =>
      simp only [compRes] at hc
      split at hc
      · rename_i m rs' hm hrs'
        cases hc
        refine one _ _ rfl hrs' (fun v hv' => ?_)
        obtain ⟨x, hx, hvx⟩ := load_ok hm R (t.getD k) hv'
        exact ⟨x, by simp only [resOne]; exact loadVar_run hx, hvx⟩
      · cases hc

theorem results_ok {fn : Func} {β : Nat → Option BI} {I : Nat → Prop} {w : World} {h : Heap} {tm : List V} {a : Act} (R : Rel P w0 I0 β I h w) (t : TmRel en β I w tm a) {ds : List DRes} {vs : List V}
    (hc : compRes P fn.results.toList = some ds) (hv : freezeList (resV h tm) ds = some vs) : ∃ x, (results fn a.tmps).run P w = .ok x w ∧ VRel β I w (tupOf vs) x := by
  obtain ⟨xs, hxs, hcr⟩ := results_run R t _ _ _ hc hv
  have hrun : (fn.results.mapM (resOne a.tmps)).run P w = .ok xs.toArray w := by
    have e : fn.results.mapM (resOne a.tmps) = (List.toArray <$> fn.results.toList.mapM (resOne a.tmps)) := by
      have := List.mapM_toArray (l := fn.results.toList) (f := resOne a.tmps)
      simpa using this
    rw [e]
    simp [hxs]
  have hdef : results fn a.tmps = (do
      let vs ← fn.results.mapM (resOne a.tmps)
      pure (if h : vs.size = 1 then vs[0] else .tuple vs)) := rfl
  refine ⟨if h : xs.toArray.size = 1 then xs.toArray[0] else Value.tuple xs.toArray, by rw [hdef, Sem.run_bind, hrun]; simp only [Result.andThen_ok, Sem.run_pure], ?_⟩
  match vs, xs, hcr with
  | [v], [x], hcr => exact hcr.2 0 (by simp) (by simp)
  | [], [], hcr => exact .tup _ _ rfl (fun i hi => absurd hi (by simp))
  | v :: v' :: vs, x :: x' :: xs, hcr =>
    simp only [List.size_toArray, List.length_cons, show ¬ (xs.length + 1 + 1 = 1) by omega, dite_false, tupOf]
    exact .tup _ _ (by have := hcr.1; simpa using this) (fun i h1 h2 => hcr.2 i h1 (by simpa using h2))
  | [], _ :: _, hcr => have := hcr.1; simp at this
  | [v], [], hcr => have := hcr.1; simp at this
  | [v], _ :: _ :: _, hcr => have := hcr.1; simp at this
  | _ :: _ :: _, [], hcr => have := hcr.1; simp at this
  | _ :: _ :: _, [x], hcr => have := hcr.1; simp at this

/-! ### New names alone -/

def Tame (s s' : St) : Prop := s.nx ≤ s'.nx ∧ ∀ id, s.hp id = none → ¬ (s.nx ≤ id ∧ id < s'.nx) → s'.hp id = none

theorem Tame.refl (s : St) : Tame s s := ⟨Nat.le_refl _, fun _ h _ => h⟩

theorem Tame.trans {a b c : St} (h : Tame a b) (k : Tame b c) : Tame a c :=
  ⟨Nat.le_trans h.1 k.1, fun id h0 hn => k.2 id (h.2 id h0 (by have := k.1; omega)) (by have := h.1; omega)⟩

theorem runOps_tame {cl : Caller} (ht : CallTame cl) : ∀ (ds : List DOper) (fr : Nat) (s s' : St), runOps cl fr ds s = some s' →
    s.nx ≤ s'.nx ∧ ∀ id, s.hp id = none → ¬ (fr ≤ id ∧ id < fr + ds.length) → ¬ (s.nx ≤ id ∧ id < s'.nx) → s'.hp id = none
  | [], fr, s, s', h => by cases h; exact ⟨Nat.le_refl _, fun _ h _ _ => h⟩
  | d :: ds, fr, s, s', h => by
    unfold runOps at h
    split at h
    · rename_i s1 hs1
      obtain ⟨h1, h2⟩ := step_tame ht hs1
      obtain ⟨h3, h4⟩ := runOps_tame ht ds (fr + 1) s1 s' h
      refine ⟨Nat.le_trans h1 h3, fun id h0 hn1 hn2 => ?_⟩
      simp only [List.length_cons] at hn1
      exact h4 id (h2 id h0 (by omega) (by omega)) (by omega) (by omega)
    · cases h

theorem region_tame {cl : Caller} (ht : CallTame cl) {ds : List DOper} {s s' : St} (h : runOps cl s.nx ds { s with nx := s.nx + ds.length } = some s') : Tame s s' := by
  obtain ⟨h1, h2⟩ := runOps_tame ht ds _ _ _ h
  simp only at h1 h2
  exact ⟨by omega, fun id h0 hn => h2 id h0 (by omega) (by omega)⟩

theorem runC_tame {cl : Caller} (ht : CallTame cl) {ops : List DOper} {chk : List (Nat × Nat)} {base : Nat} : ∀ (ds : List DOper) (k : Nat) (s s' : St) (l : List (List Nat × Mask)), runC cl ops chk base k ds s = some (s', l) →
    s.nx ≤ s'.nx ∧ ∀ id, s.hp id = none → ¬ (base + k ≤ id ∧ id < base + k + ds.length) → ¬ (s.nx ≤ id ∧ id < s'.nx) → s'.hp id = none
  | [], k, s, s', l, h => by cases h; exact ⟨Nat.le_refl _, fun _ h _ _ => h⟩
  | d :: ds, k, s, s', l, h => by
    unfold runC at h
    split at h
    · rename_i s1 hs1
      split at h
      · rename_i s2 l2 h2'
        cases h
        obtain ⟨h1, h2⟩ := step_tame (mask_tame ht _) hs1
        obtain ⟨h3, h4⟩ := runC_tame ht ds (k + 1) s1 s' l2 h2'
        refine ⟨Nat.le_trans h1 h3, fun id h0 hn1 hn2 => ?_⟩
        simp only [List.length_cons] at hn1
        exact h4 id (h2 id h0 (by omega) (by omega)) (by omega) (by omega)
      · cases h
    · cases h

theorem regionC_tame {cl : Caller} (ht : CallTame cl) {ds : List DOper} {chk : List (Nat × Nat)} {s s' : St} {l : List (List Nat × Mask)} (h : runC cl ds chk s.nx 0 ds { s with nx := s.nx + ds.length } = some (s', l)) : Tame s s' := by
  obtain ⟨h1, h2⟩ := runC_tame ht ds _ _ _ _ h
  simp only [Nat.add_zero] at h1 h2
  exact ⟨by omega, fun id h0 hn => h2 id h0 (by omega) (by omega)⟩

theorem loop_tame {r : Runner} (hr : ∀ s ex s', r s = some (ex, s') → Tame s s') : ∀ (m : Nat) (s : St) (ex : Ex) (s' : St), loopN r m s = some (ex, s') → Tame s s'
  | 0, s, ex, s', h => by simp [loopN] at h
  | m + 1, s, ex, s', h => by
    simp only [loopN] at h
    split at h
    · rename_i s1 hs1; exact (hr _ _ _ hs1).trans (loop_tame hr m _ _ _ h)
    · exact hr _ _ _ h

/-- What a loop over a function has run through. -/
theorem rangeFunc_inv {cl : Caller} {lp : Runner → Runner} {g : DOpnd} {ps : List Nat} {asg bd : DCode} {s : St} {ex : Ex} {s' : St} (h : exec cl lp (.rangeFunc g ps asg bd) s = some (ex, s')) :
    ∃ f caps u h1 n st tm qs ax bx, evalOpnd s.tm g = .fn f caps ∧ cl (.fn f) (.yield s.nx :: caps) (s.hp.put s.nx (some (.loop .ready s.tm ps asg bd))) (s.nx + 1) = some (u, h1, n) ∧
      h1 s.nx = some (.loop st tm qs ax bx) ∧ (st = .ready ∧ ex = .normal ∨ st = .done ex) ∧ s' = { s with hp := h1.put s.nx none, nx := n } := by
  simp only [exec] at h
  split at h
  · rename_i f caps hg
    split at h
    · rename_i u h1 n hcall
      split at h
      · rename_i tm qs ax bx hb
        simp only [Option.some.injEq, Prod.mk.injEq] at h
        exact ⟨f, caps, u, h1, n, _, tm, qs, ax, bx, hg, hcall, hb, .inl ⟨rfl, h.1.symm⟩, h.2.symm⟩
      · rename_i ex1 tm qs ax bx hb
        simp only [Option.some.injEq, Prod.mk.injEq] at h
        exact ⟨f, caps, u, h1, n, _, tm, qs, ax, bx, hg, hcall, hb, .inr (by rw [h.1]), h.2.symm⟩
      · cases h
    · cases h
  · cases h

theorem rangeFunc_mk {cl : Caller} {lp : Runner → Runner} {g : DOpnd} {ps : List Nat} {asg bd : DCode} {s : St} {ex : Ex} {f : Nat} {caps : List V} {u : V} {h1 : Heap} {n : Nat} {st : LSt} {tm : List V} {qs : List Nat} {ax bx : DCode}
    (hg : evalOpnd s.tm g = .fn f caps) (hcall : cl (.fn f) (.yield s.nx :: caps) (s.hp.put s.nx (some (.loop .ready s.tm ps asg bd))) (s.nx + 1) = some (u, h1, n))
    (hb : h1 s.nx = some (.loop st tm qs ax bx)) (hst : st = .ready ∧ ex = .normal ∨ st = .done ex) : exec cl lp (.rangeFunc g ps asg bd) s = some (ex, { s with hp := h1.put s.nx none, nx := n }) := by
  simp only [exec, hg, hcall, hb]
  rcases hst with ⟨rfl, rfl⟩ | rfl <;> rfl

/-- What a round has run through. -/
theorem round_inv {b : Nat} {ex : DCode → Runner} {args : List V} {h : Heap} {nx : Nat} {v : V} {h' : Heap} {nx' : Nat} (e : round b ex args h nx = some (v, h', nx')) :
    ∃ tm ps asg bd s1 tm1 ps1 asg1 bd1 ex2 s2 tm2 ps2 asg2 bd2, h b = some (.loop .ready tm ps asg bd) ∧ args.length = ps.length ∧ ex asg { tm := setAll ps args tm, hp := h, nx := nx } = some (.normal, s1) ∧
      s1.hp b = some (.loop .ready tm1 ps1 asg1 bd1) ∧ ex bd { s1 with hp := s1.hp.put b (some (.loop .busy tm1 ps1 asg1 bd1)) } = some (ex2, s2) ∧ s2.hp b = some (.loop .busy tm2 ps2 asg2 bd2) ∧
      v = .bool (decide (ex2 = .normal)) ∧ h' = s2.hp.put b (some (.loop (if ex2 = .normal then .ready else .done ex2) tm2 ps2 asg2 bd2)) ∧ nx' = s2.nx := by
  unfold round at e
  split at e
  · rename_i tm ps asg bd hb
    split at e
    · rename_i hl
      unfold beginRd at e
      split at e
      · rename_i s1 hs1
        split at e
        · rename_i tm1 ps1 asg1 bd1 hb1
          unfold endRd at e
          split at e
          · rename_i ex2 s2 hs2
            split at e
            · rename_i tm2 ps2 asg2 bd2 hb2
              refine ⟨tm, ps, asg, bd, s1, tm1, ps1, asg1, bd1, ex2, s2, tm2, ps2, asg2, bd2, hb, hl, hs1, hb1, hs2, hb2, ?_⟩
              cases ex2 <;> (simp only [Option.some.injEq, Prod.mk.injEq] at e; obtain ⟨rfl, rfl, rfl⟩ := e; simp)
            · cases e
          · cases e
        · cases e
      · cases e
    · cases e
  · cases e

theorem round_mk {b : Nat} {ex : DCode → Runner} {args : List V} {h : Heap} {nx : Nat} {tm : List V} {ps : List Nat} {asg bd : DCode} {s1 : St} {tm1 : List V} {ps1 : List Nat} {asg1 bd1 : DCode} {ex2 : Ex} {s2 : St}
    {tm2 : List V} {ps2 : List Nat} {asg2 bd2 : DCode} (hb : h b = some (.loop .ready tm ps asg bd)) (hl : args.length = ps.length) (hs1 : ex asg { tm := setAll ps args tm, hp := h, nx := nx } = some (.normal, s1))
    (hb1 : s1.hp b = some (.loop .ready tm1 ps1 asg1 bd1)) (hs2 : ex bd { s1 with hp := s1.hp.put b (some (.loop .busy tm1 ps1 asg1 bd1)) } = some (ex2, s2)) (hb2 : s2.hp b = some (.loop .busy tm2 ps2 asg2 bd2)) :
    round b ex args h nx = some (.bool (decide (ex2 = .normal)), s2.hp.put b (some (.loop (if ex2 = .normal then .ready else .done ex2) tm2 ps2 asg2 bd2)), s2.nx) := by
  simp only [round, hb, hl, if_true, hs1, beginRd, hb1, hs2, endRd, hb2]
  cases ex2 <;> simp

theorem exec_tame {cl : Caller} (ht : CallTame cl) (n : Nat) : ∀ (d : DCode) (s : St) (ex : Ex) (s' : St), exec cl (fun b => loopN b n) d s = some (ex, s') → Tame s s' := by
  intro d
  induction d with
  | skip => intro s ex s' h; cases h; exact .refl _
  | region ops =>
    intro s ex s' h
    simp only [exec] at h
    split at h
    · rename_i s1 hs1; cases h; exact region_tame ht hs1
    · cases h
  | regionC ops chk =>
    intro s ex s' h
    simp only [exec] at h
    split at h
    · rename_i s1 l hs1
      split at h
      · cases h; exact regionC_tame ht hs1
      · cases h
    · cases h
  | seq x y ihx ihy =>
    intro s ex s' h
    simp only [exec] at h
    split at h
    · rename_i s1 hs1; exact (ihx _ _ _ hs1).trans (ihy _ _ _ h)
    · exact ihx _ _ _ h
  | cond c x y ihx ihy =>
    intro s ex s' h
    simp only [exec] at h
    split at h
    · exact ihx _ _ _ h
    · exact ihy _ _ _ h
    · cases h
  | block id c ih =>
    intro s ex s' h
    simp only [exec] at h
    split at h
    · rename_i i s1 hs1
      split at h <;> (cases h; exact ih _ _ _ hs1)
    · exact ih _ _ _ h
  | loop c ih =>
    intro s ex s' h
    simp only [exec] at h
    exact loop_tame ih n s ex s' h
  | rangeFunc g ps asg bd _ _ =>
    intro s ex s' h
    obtain ⟨f, caps, u, h1, n1, st, tm, qs, ax, bx, hg, hcall, hb, hst, hs'⟩ := rangeFunc_inv h
    obtain ⟨t1, t2⟩ := ht _ _ _ _ _ _ _ hcall
    subst hs'
    refine ⟨by show s.nx ≤ n1; omega, fun id h0 hn => ?_⟩
    have hn : ¬ (s.nx ≤ id ∧ id < n1) := hn
    show (h1.put s.nx none) id = none
    by_cases e : id = s.nx
    · simp [Heap.put, e]
    · simp only [Heap.put, e, if_false]
      exact t2 id (by simp [Heap.put, e, h0]) (by omega)
  | exit id => intro s ex s' h; cases h; exact .refl _
  | ret => intro s ex s' h; cases h; exact .refl _
  | fail => intro s ex s' h; cases h

theorem run_tame (fs : Funcs) : ∀ n, CallTame (run fs n)
  | 0 => by intro f args h nx v h' nx' e; simp [run] at e
  | n + 1 => by
    intro t args h nx v h' nx' e
    cases t with
    | fn f =>
      simp only [run] at e
      split at e
      · rename_i fn hfn
        unfold finish at e
        split at e
        · cases e
        · rename_i ex s hex
          split at e
          · cases e
            exact exec_tame (run_tame fs n) n _ _ _ _ hex
          · cases e
        · cases e
      · cases e
    | yd b =>
      simp only [run] at e
      obtain ⟨tm, ps, asg, bd, s1, tm1, ps1, asg1, bd1, ex2, s2, tm2, ps2, asg2, bd2, hb, hl, hs1, hb1, hs2, hb2, rfl, rfl, rfl⟩ := round_inv e
      obtain ⟨p1, p2⟩ := exec_tame (run_tame fs n) n _ _ _ _ hs1
      obtain ⟨q1, q2⟩ := exec_tame (run_tame fs n) n _ _ _ _ hs2
      simp only at p1 p2 q1 q2
      refine ⟨Nat.le_trans p1 q1, fun id h0 hn => ?_⟩
      have hne : id ≠ b := fun e => by rw [e, hb] at h0; cases h0
      simp only [Heap.put, hne, if_false]
      exact q2 id (by simp only [Heap.put, hne, if_false]; exact p2 id h0 (by omega)) (by omega)

/-! ### More blocks do no harm -/

/-- One heap holds what the other holds. -/
def More (h h2 : Heap) : Prop := ∀ κ x, h κ = some x → h2 κ = some x

theorem freezeList_mono {α β : Type} {f g : α → Option β} (hfg : ∀ x y, f x = some y → g x = some y) : ∀ (l : List α) (r : List β), freezeList f l = some r → freezeList g l = some r
  | [], r, h => h
  | x :: l, r, h => by
    simp only [freezeList] at h ⊢
    split at h
    · rename_i y hy
      split at h
      · rename_i ys hys
        rw [hfg x y hy, freezeList_mono hfg l ys hys]
        exact h
      · cases h
    · cases h

theorem freezeT_more {h h2 : Heap} (m : More h h2) : ∀ (n : Nat) (v : V) (t : T), freezeT h n v = some t → freezeT h2 n v = some t
  | 0, v, t, e => by
    cases v with
    | d u => simpa [freezeT] using e
    | _ => simp [freezeT] at e
  | n + 1, v, t, e => by
    cases v with
    | d u => simpa [freezeT] using e
    | sl b off len z =>
      simp only [freezeT] at e ⊢
      split at e
      · rename_i es hb
        rw [m b _ hb]
        split at e
        · rename_i hle
          simp only [if_pos hle]
          split at e
          · rename_i ts hts
            rw [freezeList_mono (fun x y => freezeList_mono (fun v t => freezeT_more m n v t) x y) _ _ hts]
            exact e
          · cases e
        · cases e
      · cases e
    | map b =>
      simp only [freezeT] at e ⊢
      split at e
      · rename_i kvs hb
        rw [m b _ hb]
        simp only
        split at e
        · rename_i ts hts
          rw [freezeList_mono (fun x y hxy => ?_) _ _ hts]
          · exact e
          · simp only [Option.map_eq_some_iff] at hxy ⊢
            obtain ⟨a, ha, rfl⟩ := hxy
            exact ⟨a, freezeList_mono (fun v t => freezeT_more m n v t) _ _ ha, rfl⟩
        · cases e
      · cases e
    | _ => simp [freezeT] at e

theorem freezeLeaf_more {h h2 : Heap} (m : More h h2) (v u : V) (e : freezeLeaf h v = some u) : freezeLeaf h2 v = some u := by
  unfold freezeLeaf at e ⊢
  split at e
  · rename_i t ht; rw [freezeT_more m _ _ _ ht]; exact e
  · cases e

theorem lendLeaf_more {h h2 : Heap} (m : More h h2) (v u : V) (e : lendLeaf h v = some u) : lendLeaf h2 v = some u := by
  cases v with
  | ptr b i j =>
    simp only [lendLeaf] at e ⊢
    split at e
    · rename_i es hb
      rw [m b _ hb]
      simp only
      split at e
      · rename_i cs hcs
        split at e
        · rename_i ts hts
          rw [freezeList_mono (fun v t => freezeT_more m _ v t) _ _ hts]
          exact e
        · cases e
      · cases e
    · cases e
  | iptr cs j => exact e
  | _ => simp only [lendLeaf] at e ⊢; exact freezeLeaf_more m _ _ e

theorem lendV_more {h h2 : Heap} (m : More h h2) (v u : V) (e : lendV h v = some u) : lendV h2 v = some u := by
  unfold lendV at e ⊢
  split at e
  · split at e
    · rename_i ts hts
      rw [freezeList_mono (fun v t => lendLeaf_more m v t) _ _ hts]
      exact e
    · cases e
  · rename_i hne
    exact lendLeaf_more m _ _ e

theorem callPure_more {cl : Caller} {mode f : Nat} {args : List V} {h h2 : Heap} {v : V} (m : More h h2) (e : callPure cl mode h f args = some v) : callPure cl mode h2 f args = some v := by
  unfold callPure at e ⊢
  split at e
  · rename_i hc; rw [if_pos hc]; exact e
  · rename_i hc
    rw [if_neg hc]
    split at e
    · rename_i hm
      rw [if_pos hm]
      split at e
      · rename_i as has
        rw [freezeList_mono (fun v t => lendV_more m v t) _ _ has]
        exact e
      · cases e
    · cases e

theorem more_of {N : Nat → Prop} {h h2 : Heap} (h1 : ∀ κ, N κ → h κ = none) (h3 : ∀ κ, ¬ N κ → h2 κ = h κ) : More h h2 := fun κ x hx => by
  by_cases hn : N κ
  · rw [h1 κ hn] at hx; cases hx
  · rw [h3 κ hn]; exact hx

/-- What is said of a state and one with more blocks. -/
def Framed (N : Nat → Prop) (h2 : Heap) (s' : St) (r : Option St) : Prop := ∃ h2', r = some ⟨s'.tm, h2', s'.nx⟩ ∧ (∀ κ, N κ → h2' κ = h2 κ) ∧ ∀ κ, ¬ N κ → h2' κ = s'.hp κ

theorem step_frame {cl : Caller} (hf : CallFrame cl) {fr : Nat} {d : DOper} {s s' : St} (hs : stepOp cl fr d s = some s') {N : Nat → Prop} {h2 : Heap} (hN : ∀ κ, N κ → s.hp κ = none ∧ κ < s.nx ∧ κ ≠ fr)
    (h3 : ∀ κ, ¬ N κ → h2 κ = s.hp κ) : Framed N h2 s' (stepOp cl fr d ⟨s.tm, h2, s.nx⟩) := by
  unfold Framed
  unfold stepOp at hs ⊢
  simp only
  by_cases hw : wanted d.guard s.tm = true
  · rw [if_pos hw] at hs
    rw [if_pos hw]
    have call5 : ∀ (f : Tgt) (as : List V) (v : V) (h' : Heap) (n : Nat), cl f as s.hp s.nx = some (v, h', n) → s' = ⟨putSlot s.tm d.dst v, h', n⟩ →
        ∃ h2', (match cl f as h2 s.nx with | some (v, h, n) => some ⟨putSlot s.tm d.dst v, h, n⟩ | none => none) = some (⟨s'.tm, h2', s'.nx⟩ : St) ∧ (∀ κ, N κ → h2' κ = h2 κ) ∧ ∀ κ, ¬ N κ → h2' κ = s'.hp κ := by
      intro f as v h' n hcall hs'
      subst hs'
      obtain ⟨h2', e, on, off⟩ := hf _ _ _ _ _ _ _ hcall N h2 (fun κ hκ => ⟨(hN κ hκ).1, (hN κ hκ).2.1⟩) h3
      exact ⟨h2', by rw [e], on, off⟩
    cases hdop : d.op with
    | call mode f args =>
      rw [hdop] at hs
      simp only at hs ⊢
      split at hs
      · rename_i hm
        rw [if_pos hm]
        split at hs
        · rename_i v h' n hcall
          exact call5 _ _ v h' n hcall (by cases hs; rfl)
        · cases hs
      · rename_i hm
        rw [if_neg hm]
        split at hs
        · rename_i v hp
          cases hs
          rw [callPure_more (more_of (fun κ hκ => (hN κ hκ).1) h3) hp]
          exact ⟨h2, rfl, fun _ _ => rfl, h3⟩
        · cases hs
    | callv x args =>
      rw [hdop] at hs
      simp only at hs ⊢
      split at hs
      · rename_i f caps hfn
        try simp only [hfn]
        split at hs
        · rename_i v h' n hcall
          exact call5 _ _ v h' n hcall (by cases hs; rfl)
        · cases hs
      · rename_i b hfn
        try simp only [hfn]
        split at hs
        · rename_i v h' n hcall
          exact call5 _ _ v h' n hcall (by cases hs; rfl)
        · cases hs
      · cases hs
    | _ =>
      rw [hdop] at hs
      simp only at hs ⊢
      split at hs
      · rename_i v h' hev
        cases hs
        have L := local_op (fun u => rfl) hev
        have hfr : h2 fr = s.hp fr := h3 fr (fun hn => (hN fr hn).2.2 rfl)
        have hkk := fun κ hκ => h3 κ (fun hn => L.there κ hκ (hN κ hn).1)
        obtain ⟨h1', he, hh⟩ := L.other h2 hfr hkk
        rw [he]
        refine ⟨h1', rfl, fun κ hκ => ?_, fun κ hκ => ?_⟩
        · rw [hh κ, if_neg]
          rintro (⟨e, _⟩ | ⟨_, e⟩)
          · exact (hN κ hκ).2.2 e
          · exact L.there κ e (hN κ hκ).1
        · rw [hh κ]
          split
          · rfl
          · rename_i hnw
            rw [h3 κ hκ]
            exact (L.keep κ hnw).symm
      · cases hs
  · rw [if_neg hw] at hs
    rw [if_neg hw]
    cases hs
    exact ⟨h2, rfl, fun _ _ => rfl, h3⟩

theorem mask_frame {cl : Caller} (hf : CallFrame cl) (M : Mask) : CallFrame (maskCl cl M) := by
  intro f args h nx v h' nx' hc N h2 hN h3
  unfold maskCl at hc ⊢
  split at hc
  · exact hf _ _ _ _ _ _ _ hc N h2 hN h3
  · simp only at hc ⊢
    split at hc
    · rename_i hall
      rw [if_pos hall]
      split at hc
      · rename_i v1 h1 n1 hcl
        split at hc
        · rename_i hkept
          cases hc
          obtain ⟨h2', e, on, off⟩ := hf _ _ _ _ _ _ _ hcl N (h2.without M.1) (fun κ hκ => ⟨by simp only [Heap.without]; split <;> simp [(hN κ hκ).1], (hN κ hκ).2⟩) (fun κ hκ => by simp only [Heap.without]; split <;> simp [h3 κ hκ])
          rw [e]
          have hkept2 : keptOk M h2 h2' := fun κ hκ => (hkept κ hκ).imp id (fun hh => by
            have hn : ¬ N κ := fun hn => hh.1 (hN κ hn).1
            rw [h3 κ hn, off κ hn]
            exact hh)
          (try simp only)
          rw [if_pos hkept2]
          refine ⟨_, rfl, fun κ hκ => ?_, fun κ hκ => ?_⟩
          · try simp only
            split
            · rfl
            · rename_i hm
              rw [on κ hκ]
              simp only [Heap.without]
              rw [if_neg hm]
          · try simp only
            split
            · exact h3 κ hκ
            · exact off κ hκ
        · cases hc
      · cases hc
    · cases hc

theorem ops_frame {cl : Caller} (ht : CallTame cl) (hf : CallFrame cl) {N : Nat → Prop} {h2 : Heap} : ∀ (ds : List DOper) (fr : Nat) (s s' : St), runOps cl fr ds s = some s' →
    (∀ κ, N κ → s.hp κ = none ∧ κ < s.nx ∧ κ < fr) → (∀ κ, ¬ N κ → h2 κ = s.hp κ) → Framed N h2 s' (runOps cl fr ds ⟨s.tm, h2, s.nx⟩)
  | [], fr, s, s', h, hN, h3 => by cases h; exact ⟨h2, rfl, fun _ _ => rfl, h3⟩
  | d :: ds, fr, s, s', h, hN, h3 => by
    unfold runOps at h ⊢
    split at h
    · rename_i s1 hs1
      obtain ⟨ha, e, on, off⟩ := step_frame hf hs1 (fun κ hκ => ⟨(hN κ hκ).1, (hN κ hκ).2.1, by have := (hN κ hκ).2.2; omega⟩) h3
      obtain ⟨t1, t2⟩ := step_tame ht hs1
      rw [e]
      simp only
      obtain ⟨hb, e', on', off'⟩ := ops_frame (N := N) (h2 := ha) ht hf ds (fr + 1) s1 s' h (fun κ hκ => ⟨t2 κ (hN κ hκ).1 (by have := (hN κ hκ).2.2; omega) (by have := (hN κ hκ).2.1; omega), by have := (hN κ hκ).2.1; omega, by have := (hN κ hκ).2.2; omega⟩) off
      exact ⟨hb, e', fun κ hκ => (on' κ hκ).trans (on κ hκ), off'⟩
    · cases h

theorem runC_frame {cl : Caller} (ht : CallTame cl) (hf : CallFrame cl) {ops : List DOper} {chk : List (Nat × Nat)} {base : Nat} {N : Nat → Prop} {h2 : Heap} : ∀ (ds : List DOper) (k : Nat) (s s' : St) (l : List (List Nat × Mask)),
    runC cl ops chk base k ds s = some (s', l) → (∀ κ, N κ → s.hp κ = none ∧ κ < s.nx ∧ κ < base) → (∀ κ, ¬ N κ → h2 κ = s.hp κ) →
    ∃ h2', runC cl ops chk base k ds ⟨s.tm, h2, s.nx⟩ = some (⟨s'.tm, h2', s'.nx⟩, l) ∧ (∀ κ, N κ → h2' κ = h2 κ) ∧ ∀ κ, ¬ N κ → h2' κ = s'.hp κ
  | [], k, s, s', l, h, hN, h3 => by cases h; exact ⟨h2, rfl, fun _ _ => rfl, h3⟩
  | d :: ds, k, s, s', l, h, hN, h3 => by
    unfold runC at h ⊢
    split at h
    · rename_i s1 hs1
      obtain ⟨ha, e, on, off⟩ := step_frame (mask_frame hf _) hs1 (fun κ hκ => ⟨(hN κ hκ).1, (hN κ hκ).2.1, by have := (hN κ hκ).2.2; omega⟩) h3
      obtain ⟨t1, t2⟩ := step_tame (mask_tame ht _) hs1
      simp only
      rw [e]
      simp only
      split at h
      · rename_i s2 l2 hr
        cases h
        obtain ⟨hb, e', on', off'⟩ := runC_frame (N := N) (h2 := ha) ht hf ds (k + 1) s1 s' l2 hr (fun κ hκ => ⟨t2 κ (hN κ hκ).1 (by have := (hN κ hκ).2.2; omega) (by have := (hN κ hκ).2.1; omega), by have := (hN κ hκ).2.1; omega, (hN κ hκ).2.2⟩) off
        rw [e']
        exact ⟨hb, rfl, fun κ hκ => (on' κ hκ).trans (on κ hκ), off'⟩
      · cases h
    · cases h

/-- A runner that runs where there are more blocks. -/
def RunFrame (r : Runner) : Prop := ∀ (s : St) (ex : Ex) (s' : St), r s = some (ex, s') → Tame s s' ∧ ∀ (N : Nat → Prop) (h2 : Heap), (∀ κ, N κ → s.hp κ = none ∧ κ < s.nx) → (∀ κ, ¬ N κ → h2 κ = s.hp κ) →
  ∃ h2', r ⟨s.tm, h2, s.nx⟩ = some (ex, ⟨s'.tm, h2', s'.nx⟩) ∧ (∀ κ, N κ → h2' κ = h2 κ) ∧ ∀ κ, ¬ N κ → h2' κ = s'.hp κ

theorem Tame.keep {s s' : St} (t : Tame s s') {N : Nat → Prop} (hN : ∀ κ, N κ → s.hp κ = none ∧ κ < s.nx) : ∀ κ, N κ → s'.hp κ = none ∧ κ < s'.nx := fun κ hκ =>
  ⟨t.2 κ (hN κ hκ).1 (by have := (hN κ hκ).2; omega), Nat.lt_of_lt_of_le (hN κ hκ).2 t.1⟩

theorem loop_frame {r : Runner} (hr : RunFrame r) : ∀ (m : Nat), RunFrame (fun s => loopN r m s)
  | 0 => by intro s ex s' h; simp [loopN] at h
  | m + 1 => by
    intro s ex s' h
    simp only [loopN] at h
    cases hrs : r s with
    | none => rw [hrs] at h; cases h
    | some p =>
      obtain ⟨ex1, s1⟩ := p
      obtain ⟨t1, f1⟩ := hr s ex1 s1 hrs
      rw [hrs] at h
      cases ex1 with
      | normal =>
        simp only at h
        obtain ⟨t2, f2⟩ := loop_frame hr m s1 ex s' h
        refine ⟨t1.trans t2, fun N h2 hN h3 => ?_⟩
        obtain ⟨ha, e, on, off⟩ := f1 N h2 hN h3
        obtain ⟨hb, e', on', off'⟩ := f2 N ha (t1.keep hN) off
        refine ⟨hb, ?_, fun κ hκ => (on' κ hκ).trans (on κ hκ), off'⟩
        simp only [loopN, e]
        exact e'
      | exit i =>
        simp only [Option.some.injEq, Prod.mk.injEq] at h
        obtain ⟨rfl, rfl⟩ := h
        refine ⟨t1, fun N h2 hN h3 => ?_⟩
        obtain ⟨ha, e, on, off⟩ := f1 N h2 hN h3
        exact ⟨ha, by simp only [loopN, e], on, off⟩
      | ret =>
        simp only [Option.some.injEq, Prod.mk.injEq] at h
        obtain ⟨rfl, rfl⟩ := h
        refine ⟨t1, fun N h2 hN h3 => ?_⟩
        obtain ⟨ha, e, on, off⟩ := f1 N h2 hN h3
        exact ⟨ha, by simp only [loopN, e], on, off⟩

theorem exec_frame {cl : Caller} (ht : CallTame cl) (hf : CallFrame cl) (n : Nat) : ∀ (d : DCode), RunFrame (exec cl (fun b => loopN b n) d) := by
  intro d
  induction d with
  | skip => intro s ex s' h; cases h; exact ⟨.refl _, fun N h2 hN h3 => ⟨h2, rfl, fun _ _ => rfl, h3⟩⟩
  | region ops =>
    intro s ex s' h
    refine ⟨exec_tame ht n _ _ _ _ h, fun N h2 hN h3 => ?_⟩
    simp only [exec] at h ⊢
    split at h
    · rename_i s1 hs1
      cases h
      obtain ⟨ha, e, on, off⟩ := ops_frame (N := N) (h2 := h2) ht hf ops s.nx _ _ hs1 (fun κ hκ => ⟨(hN κ hκ).1, by have := (hN κ hκ).2; simp only; omega, (hN κ hκ).2⟩) h3
      simp only at e
      rw [e]
      exact ⟨ha, rfl, on, off⟩
    · cases h
  | regionC ops chk =>
    intro s ex s' h
    refine ⟨exec_tame ht n _ _ _ _ h, fun N h2 hN h3 => ?_⟩
    simp only [exec] at h ⊢
    split at h
    · rename_i s1 l hs1
      split at h
      · rename_i hchk
        cases h
        obtain ⟨ha, e, on, off⟩ := runC_frame (N := N) (h2 := h2) ht hf ops 0 _ _ _ hs1 (fun κ hκ => ⟨(hN κ hκ).1, by have := (hN κ hκ).2; simp only; omega, (hN κ hκ).2⟩) h3
        simp only at e
        rw [e]
        simp only
        rw [if_pos hchk]
        exact ⟨ha, rfl, on, off⟩
      · cases h
    · cases h
  | seq x y ihx ihy =>
    intro s ex s' h
    simp only [exec] at h
    cases hx : exec cl (fun b => loopN b n) x s with
    | none => rw [hx] at h; cases h
    | some p =>
      obtain ⟨ex1, s1⟩ := p
      rw [hx] at h
      obtain ⟨t1, f1⟩ := ihx s ex1 s1 hx
      cases ex1 with
      | normal =>
        simp only at h
        obtain ⟨t2, f2⟩ := ihy s1 ex s' h
        refine ⟨t1.trans t2, fun N h2 hN h3 => ?_⟩
        obtain ⟨ha, e, on, off⟩ := f1 N h2 hN h3
        obtain ⟨hb, e', on', off'⟩ := f2 N ha (t1.keep hN) off
        exact ⟨hb, by simp only [exec, e]; exact e', fun κ hκ => (on' κ hκ).trans (on κ hκ), off'⟩
      | exit i =>
        simp only [Option.some.injEq, Prod.mk.injEq] at h
        obtain ⟨rfl, rfl⟩ := h
        refine ⟨t1, fun N h2 hN h3 => ?_⟩
        obtain ⟨ha, e, on, off⟩ := f1 N h2 hN h3
        exact ⟨ha, by simp only [exec, e], on, off⟩
      | ret =>
        simp only [Option.some.injEq, Prod.mk.injEq] at h
        obtain ⟨rfl, rfl⟩ := h
        refine ⟨t1, fun N h2 hN h3 => ?_⟩
        obtain ⟨ha, e, on, off⟩ := f1 N h2 hN h3
        exact ⟨ha, by simp only [exec, e], on, off⟩
  | cond c x y ihx ihy =>
    intro s ex s' h
    simp only [exec] at h
    split at h
    · rename_i he
      obtain ⟨t1, f1⟩ := ihx s ex s' h
      refine ⟨t1, fun N h2 hN h3 => ?_⟩
      obtain ⟨ha, e, on, off⟩ := f1 N h2 hN h3
      exact ⟨ha, by simp only [exec, he]; exact e, on, off⟩
    · rename_i he
      obtain ⟨t1, f1⟩ := ihy s ex s' h
      refine ⟨t1, fun N h2 hN h3 => ?_⟩
      obtain ⟨ha, e, on, off⟩ := f1 N h2 hN h3
      exact ⟨ha, by simp only [exec, he]; exact e, on, off⟩
    · cases h
  | block id c ih =>
    intro s ex s' h
    simp only [exec] at h
    cases hx : exec cl (fun b => loopN b n) c s with
    | none => rw [hx] at h; cases h
    | some p =>
      obtain ⟨ex1, s1⟩ := p
      rw [hx] at h
      obtain ⟨t1, f1⟩ := ih s ex1 s1 hx
      cases ex1 with
      | normal =>
        simp only [Option.some.injEq, Prod.mk.injEq] at h
        obtain ⟨rfl, rfl⟩ := h
        refine ⟨t1, fun N h2 hN h3 => ?_⟩
        obtain ⟨ha, e, on, off⟩ := f1 N h2 hN h3
        exact ⟨ha, by simp only [exec, e], on, off⟩
      | ret =>
        simp only [Option.some.injEq, Prod.mk.injEq] at h
        obtain ⟨rfl, rfl⟩ := h
        refine ⟨t1, fun N h2 hN h3 => ?_⟩
        obtain ⟨ha, e, on, off⟩ := f1 N h2 hN h3
        exact ⟨ha, by simp only [exec, e], on, off⟩
      | exit i =>
        simp only at h
        refine ⟨?_, fun N h2 hN h3 => ?_⟩
        · split at h <;> (cases h; exact t1)
        · obtain ⟨ha, e, on, off⟩ := f1 N h2 hN h3
          by_cases hi : i = id
          · rw [if_pos hi] at h
            cases h
            exact ⟨ha, by simp only [exec, e, if_pos hi], on, off⟩
          · rw [if_neg hi] at h
            cases h
            exact ⟨ha, by simp only [exec, e, if_neg hi], on, off⟩
  | loop c ih =>
    intro s ex s' h
    exact loop_frame ih n s ex s' h
  | rangeFunc g ps asg bd _ _ =>
    intro s ex s' h
    refine ⟨exec_tame ht n _ _ _ _ h, fun N h2 hN h3 => ?_⟩
    obtain ⟨f, caps, u, h1, n1, st, tm, qs, ax, bx, hg, hcall, hb, hst, hs'⟩ := rangeFunc_inv h
    have hns : ¬ N s.nx := fun hn => Nat.lt_irrefl _ (hN _ hn).2
    obtain ⟨h2', e, on, off⟩ := hf _ _ _ _ _ _ _ hcall N (h2.put s.nx (some (.loop .ready s.tm ps asg bd)))
      (fun κ hκ => ⟨by simp only [Heap.put, show κ ≠ s.nx from fun e => hns (e ▸ hκ), if_false]; exact (hN κ hκ).1, by have := (hN κ hκ).2; omega⟩)
      (fun κ hκ => by simp only [Heap.put]; split <;> simp [h3 κ hκ])
    subst hs'
    refine ⟨h2'.put s.nx none, rangeFunc_mk (s := ⟨s.tm, h2, s.nx⟩) hg e (by rw [off _ hns]; exact hb) hst, fun κ hκ => ?_, fun κ hκ => ?_⟩
    · have hne : κ ≠ s.nx := fun e => hns (e ▸ hκ)
      simp only [Heap.put, hne, if_false]
      rw [on κ hκ]
      simp only [Heap.put, hne, if_false]
    · simp only [Heap.put]
      split
      · rfl
      · exact off κ hκ
  | exit id => intro s ex s' h; cases h; exact ⟨.refl _, fun N h2 hN h3 => ⟨h2, rfl, fun _ _ => rfl, h3⟩⟩
  | ret => intro s ex s' h; cases h; exact ⟨.refl _, fun N h2 hN h3 => ⟨h2, rfl, fun _ _ => rfl, h3⟩⟩
  | fail => intro s ex s' h; cases h

theorem loadV_more {h h2 : Heap} (m : More h h2) {n : Option Nat} {p v : V} (e : loadV h n p = some v) : loadV h2 n p = some v := by
  unfold loadV at e ⊢
  have : ∀ c, ptrCells h p = some c → ptrCells h2 p = some c := by
    intro c hc
    cases p with
    | ptr b i j =>
      simp only [ptrCells] at hc ⊢
      split at hc
      · rename_i es hb; rw [m b _ hb]; exact hc
      · cases hc
    | iptr cs j => exact hc
    | _ => simp [ptrCells] at hc
  split at e
  · rename_i cs j hc; rw [this _ hc]; exact e
  · cases e

theorem run_frame (fs : Funcs) : ∀ n, CallFrame (run fs n)
  | 0 => by intro f args h nx v h' nx' e; simp [run] at e
  | n + 1 => by
    intro t args h nx v h' nx' e N h2 hN h3
    cases t with
    | fn f =>
      simp only [run] at e ⊢
      split at e
      · rename_i fn hfn
        unfold finish at e
        split at e
        · cases e
        · rename_i ex s hnex hex
          split at e
          · rename_i vs hvs
            cases e
            obtain ⟨t, f⟩ := exec_frame (run_tame fs n) (run_frame fs n) n fn.body _ _ _ hex
            obtain ⟨ha, e, on, off⟩ := f N h2 hN h3
            refine ⟨ha, ?_, on, off⟩
            have hn : ∀ κ, N κ → s.hp κ = none := fun κ hκ => (t.keep hN κ hκ).1
            have hvs2 : freezeList (resV ha s.tm) fn.results = some vs := freezeList_mono (fun r v hr => by
              cases r with
              | tmp k => exact hr
              | cell a k => exact loadV_more (more_of hn off) hr) _ _ hvs
            have e' : exec (run fs n) (fun b => loopN b n) fn.body (enter fn args h2 nx) = some (ex, ⟨s.tm, ha, s.nx⟩) := e
            rw [e']
            unfold finish
            cases ex with
            | exit i => exact (hnex i rfl).elim
            | normal => simp only [hvs2]
            | ret => simp only [hvs2]
          · cases e
        · cases e
      · cases e
    | yd b =>
      simp only [run] at e ⊢
      obtain ⟨tm, ps, asg, bd, s1, tm1, ps1, asg1, bd1, ex2, s2, tm2, ps2, asg2, bd2, hb, hl, hs1, hb1, hs2, hb2, rfl, rfl, rfl⟩ := round_inv e
      have hnb : ¬ N b := fun hn => by rw [(hN b hn).1] at hb; cases hb
      obtain ⟨t1, f1⟩ := exec_frame (run_tame fs n) (run_frame fs n) n asg _ _ _ hs1
      obtain ⟨ha, ea, ona, offa⟩ := f1 N h2 hN h3
      obtain ⟨t2, f2⟩ := exec_frame (run_tame fs n) (run_frame fs n) n bd _ _ _ hs2
      have hN1 := t1.keep hN
      have hne : ∀ κ, N κ → κ ≠ b := fun κ hκ e => hnb (e ▸ hκ)
      obtain ⟨hb', eb, onb, offb⟩ := f2 N (ha.put b (some (.loop .busy tm1 ps1 asg1 bd1))) (fun κ hκ => ⟨by simp only [Heap.put, hne κ hκ, if_false]; exact (hN1 κ hκ).1, (hN1 κ hκ).2⟩)
        (fun κ hκ => by simp only [Heap.put]; split <;> simp [offa κ hκ])
      refine ⟨_, round_mk (s1 := ⟨s1.tm, ha, s1.nx⟩) (s2 := ⟨s2.tm, hb', s2.nx⟩) (by rw [h3 b hnb]; exact hb) hl ea (by show ha b = _; rw [offa b hnb]; exact hb1) eb (by show hb' b = _; rw [offb b hnb]; exact hb2), fun κ hκ => ?_, fun κ hκ => ?_⟩
      · have hn := hne κ hκ
        simp only [Heap.put, hn, if_false]
        rw [onb κ hκ]
        simp only [Heap.put, hn, if_false]
        exact ona κ hκ
      · simp only [Heap.put]
        split
        · rfl
        · exact offb κ hκ

/-- The compiled functions are the program's. -/
def FsOk (P : Program) (fs : Funcs) : Prop := ∀ f d, fs f = some d → ∃ pure', compFn P pure' f = some d

theorem enter_rel {β : Nat → Option BI} {I : Nat → Prop} {w : World} {args : List V} {xs : Array Value} (hx : CRel β I w args xs.toList) (n : Nat) :
    TmRel I β I w (args ++ List.replicate (n - args.length) .undef) { tmps := xs ++ Array.replicate (n - xs.size) undef, defers := [] } := by
  have hl : xs.size = args.length := by have := hx.1; simpa using this
  refine ⟨by simp [hl], fun i h1 h2 => ?_, ⟨[], rfl, List.nodup_nil, fun r hr => absurd hr (by simp)⟩, fun b hb => hb⟩
  simp only
  rw [List.getElem_append, Array.getElem_append]
  by_cases hi : i < args.length
  · rw [dif_pos hi, dif_pos (by omega)]
    have := hx.2 i hi (by simp; omega)
    simpa using this
  · rw [dif_neg hi, dif_neg (by omega)]
    simp only [List.getElem_replicate, Array.getElem_replicate]
    exact .undef

theorem Rel.self {β : Nat → Option BI} {I : Nat → Prop} {w : World} {h : Heap} (R : Rel P w0 I0 β I h w) : Rel P w0 I β I h w :=
  ⟨R.old, R.size, R.os, R.tape, R.output, R.cold, fun b hb => ⟨.inl hb, (R.imm b hb).2⟩, R.own, R.inj, R.live⟩

theorem Rel.back {β β' : Nat → Option BI} {I I' : Nat → Prop} {w w' : World} {h h' : Heap} (R0 : Rel P w0 I0 β I h w) (R : Rel P w0 I β' I' h' w') : Rel P w0 I0 β' I' h' w' :=
  ⟨R.old, R.size, R.os, R.tape, R.output, R.cold, fun b hb => ⟨(R.imm b hb).1.elim (fun h => (R0.imm b h).1) .inr, (R.imm b hb).2⟩, R.own, R.inj, R.live⟩

/-- The marks are taken off, one after the other; then the results are read. -/
theorem marks_leave {F : Fence} {n : Nat} {fn : Func} {Rr : Ending → World → Prop} {J : Nat → Prop} {we : World} {β0 β : Nat → Option BI} {h : Heap} {tm : List V} {tmps : Array Value}
    (K : ∀ (I'' : Nat → Prop) (w'' : World), Rel P w0 J β I'' h w'' → Mono β0 J we β I'' w'' → TmRel (fun _ => False) β I'' w'' tm { tmps := tmps, defers := [] } →
      ∃ v, (results fn tmps).run P w'' = .ok v w'' ∧ Rr (.returned v) w'') :
    ∀ (rs : List Nat) (I' : Nat → Prop) (w' : World), Rel P w0 J β I' h w' → Mono β0 J we β I' w' → TmRel (fun _ => False) β I' w' tm { tmps := tmps, defers := [] } → rs.Nodup →
      (∀ r ∈ rs, ¬ J r ∧ I' r ∧ w'.heap[r]? = some (.deferred (some []))) → LeavesInM F n P fn tmps Rr (rs.map markOf) .returning w'
  | [], I', w', R, m, t, _, _ => K I' w' R m t
  | r :: rs, I', w', R, m, t, hnd, hr => by
    obtain ⟨hJ, hI, hd⟩ := hr r (List.mem_cons_self ..)
    have hge : ¬ r < w0.heap.size := fun hlt => (R.imm r hI).1.elim hJ (fun h => absurd hlt (by omega))
    have o := putObj_off (I := I') (o := .deferred none) hd
    rw [List.nodup_cons] at hnd
    refine ⟨by simp, .inl ⟨r, w'.putObj r (.deferred none), rfl, run_takeDeferred hd, ?_⟩⟩
    refine marks_leave K rs _ _ (R.shut hI hge hd) ⟨m.bs, fun b hb => ⟨m.is b hb, fun e => hJ (e ▸ hb)⟩, fun b hb => (o.heap b (fun e => hJ (e ▸ hb))).trans (m.heap b hb)⟩
      ⟨t.size, fun i hi hi' => (t.rel i hi hi').off o, ⟨[], rfl, List.nodup_nil, fun r hr => absurd hr (by simp)⟩, fun b hb => hb.elim⟩ hnd.2 (fun r2 hr2 => ?_)
    obtain ⟨q1, q2, q3⟩ := hr r2 (List.mem_cons_of_mem _ hr2)
    have hne : r2 ≠ r := fun e => hnd.1 (e ▸ hr2)
    exact ⟨q1, ⟨q2, hne⟩, (o.heap _ hne).trans q3⟩

theorem foldl_zip (ps : Array Tmp) (xs ts : Array Value) :
    (ps.zip xs).foldl (fun tmps (p : Tmp × Value) => tmps.setIfInBounds p.1 p.2) ts = (ps.toList.zip xs.toList).foldl (fun ts (p : Nat × Value) => ts.setIfInBounds p.1 p.2) ts := by
  rw [← Array.foldl_toList, Array.toList_zip]

theorem run_sound (hm : P.follows .mixedOrders = true) {fs : Funcs} (hfs : FsOk P fs) : ∀ n, CallSound P (run fs n)
  | 0 => ⟨by intro f args h nx v h' nx' e; simp [run] at e, by intro f args h nx v h' nx' e; simp [run] at e⟩
  | n + 1 => by
    have ih := run_sound hm hfs n
    refine ⟨?_, ?_⟩
    · intro f args h nx v h' nx' e
      simp only [run] at e
      split at e
      · rename_i d hd
        obtain ⟨pure', hc⟩ := hfs f d hd
        unfold compFn at hc
        split at hc
        · rename_i fn hfn
          split at hc
          · cases hc
          · rename_i hname
            split at hc
            · rename_i c hbody
              split at hc
              · rename_i b rs hb hrs
                cases hc
                refine ⟨⟨fn, hfn, by rw [hbody]; rfl, by simpa using hname⟩, fun w0 I0 β I w xs R hfr hx => ?_⟩
                refine callsIn_wide.1 (callsIn_of_wp_marks (n := 0) hfn hbody trivial ?_)
                unfold finish at e
                split at e
                · cases e
                · rename_i ex s hnex hex
                  split at e
                  · rename_i vs hvs
                    cases e
                    refine exec_sound (en := I) (rd := none) (k := 0) (w0 := w0) (I0 := I) hm ih (run_tame fs n) (run_frame fs n) n c b hb (.inl rfl) _ ex s β I _ w _ hex ⟨R.self, enter_rel hx fn.ntmps, hfr⟩ (fun a' w' hp => ?_)
                    obtain ⟨β', I', m, hlow, hle, S'⟩ := hp
                    obtain ⟨mrs, q1, q2, q3⟩ := S'.tm.defers
                    have fin : LeavesInM Fence.wide 0 P fn a'.tmps (CallPost P w0 I0 β I w nx (tupOf vs) s.hp s.nx) a'.defers .returning w' := by
                      rw [q1]
                      refine marks_leave (β0 := β) (we := w) (fun I'' w'' R'' m'' t'' => ?_) mrs I' w' S'.heap m ⟨S'.tm.size, S'.tm.rel, ⟨[], rfl, List.nodup_nil, fun r hr => absurd hr (by simp)⟩, fun b hb => hb.elim⟩ q2 q3
                      obtain ⟨x, hrun, hv⟩ := results_ok R'' t'' hrs hvs
                      exact ⟨x, hrun, x, β', I'', rfl, m'', R.back R'', S'.fresh, hlow, hle, hv⟩
                    cases ex with
                    | normal => exact fin
                    | ret => exact fin
                    | exit i => exact (hnex i rfl).elim
                  · cases e
                · cases e
              · cases hc
            · cases hc
        · cases hc
      · cases e
    · intro b args h nx v h' nx' e w0 I0 β I w xs R hfr hx bi hbi
      simp only [run] at e
      obtain ⟨tm, ps, asg, bd, s1, tm1, ps1, asg1, bd1, ex2, s2, tm2, ps2, asg2, bd2, hb, hl, hs1, hb1, hs2, hb2, rfl, rfl, rfl⟩ := round_inv e
      obtain ⟨bi', hbi', r, hr1, hr2, hr3, ⟨pure', hca, hcb, hfa, hfb⟩, hr5, hr6⟩ := R.live b _ hb
      rw [hbi] at hbi'
      cases hbi'
      have hbn : b < nx := by
        cases Nat.lt_or_ge b nx with
        | inl h => exact h
        | inr h => rw [hfr b h] at hbi; cases hbi
      have hsz : xs.size = r.params.size := by
        have h1 := hx.1
        rw [← Array.length_toList, h1, hl, ← hr3, Array.length_toList]
      refine ⟨r.fn, _, r.assign, r.body, run_yield hr1 hsz, fun rd k => ?_⟩
      refine roundIn_of_wpIn trivial ?_
      show r.assign.wpIn (Fw (some bi.blk)) k P _ _ w
      obtain ⟨hsz2, hrel2⟩ := setAll_rel ps args xs.toList tm r.tmps hx hr5 hr6
      have t0 : TmRel I β I w (setAll ps args tm) { tmps := (r.params.zip xs).foldl (fun tmps (p : Tmp × Value) => tmps.setIfInBounds p.1 p.2) r.tmps, defers := [] } := by
        rw [foldl_zip, hr3]
        exact ⟨hsz2, hrel2, ⟨[], rfl, List.nodup_nil, fun r hr => absurd hr (by simp)⟩, fun b hb => hb⟩
      refine exec_sound (en := I) (w0 := w0) (I0 := I0) hm ih (run_tame fs n) (run_frame fs n) n r.assign asg hca (.inr hfa) _ .normal s1 β I _ w _ hs1 ⟨R, t0, hfr⟩ (fun a1 w1 hp1 => ?_)
      obtain ⟨β1, I1, m1, hlow1, hle1, S1⟩ := hp1
      simp only at hlow1 hle1
      -- the round begins
      have hbi1 : β1 b = some bi := by rw [hlow1 b hbn]; exact hbi
      obtain ⟨bi', hbi', q, hq1, hq2, hq3, hq4, hq5, hq6⟩ := S1.heap.live b _ hb1
      rw [hbi1] at hbi'
      cases hbi'
      have hlt1 : bi.blk < w1.heap.size := (S1.heap.own _ _ hbi1).2.1
      obtain ⟨β1', m1', hoth1, hto1, R1'⟩ := S1.heap.write (w' := w1.putObj bi.blk (.loop { q with state := .busy })) (to := b) (bi' := bi) hbi1 (by rw [hb1]; simp) (.inl ⟨rfl, rfl⟩) rfl (by simp)
        (fun k hk => World.putObj_heap_other hk) rfl rfl rfl (.loop .busy tm1 ps1 asg1 bd1)
        (fun β' m' => ⟨_, World.putObj_heap_same hlt1, rfl, hq3, hq4, hq5, fun i hi hi' => (hq6 i hi hi').mono m'⟩)
      rw [Heap.put_put] at R1'
      have hsame1 : ∀ id, β1' id = β1 id := fun id => by
        by_cases e : id = b
        · rw [e, hto1, hbi1]
        · exact hoth1 id e
      refine ⟨_, run_beginRound hq1 hq2.1, ?_⟩
      refine exec_sound (en := I) (w0 := w0) (I0 := I0) hm ih (run_tame fs n) (run_frame fs n) n r.body bd hcb (.inr hfb) _ ex2 s2 β1' I1 a1 _ _ hs2 ⟨R1', S1.tm.mono m1', fun id hid => by rw [hsame1]; exact S1.fresh id hid⟩ (fun a2 w2 hp2 => ?_)
      obtain ⟨β2, I2, m2, hlow2, hle2, S2⟩ := hp2
      simp only at hlow2 hle2
      -- the round ends
      have hbi2 : β2 b = some bi := by rw [hlow2 b (by omega), hsame1]; exact hbi1
      obtain ⟨bi', hbi', u, hu1, hu2, hu3, hu4, hu5, hu6⟩ := S2.heap.live b _ hb2
      rw [hbi2] at hbi'
      cases hbi'
      have hlt2 : bi.blk < w2.heap.size := (S2.heap.own _ _ hbi2).2.1
      have fin : ∀ (jump : Option Code), jump = jumpOf ex2 → ∃ v w', (Instr.endRound bi.blk jump).run P w2 = .ok v w' ∧ CallPost P w0 I0 β I w nx (.bool (decide (ex2 = .normal)))
          (s2.hp.put b (some (.loop (if ex2 = .normal then .ready else .done ex2) tm2 ps2 asg2 bd2))) s2.nx (.returned v) w' := by
        intro jump hj
        have hjn : jump.isNone = decide (ex2 = .normal) := by rw [hj]; cases ex2 <;> simp [jumpOf]
        obtain ⟨β3, m3, hoth3, hto3, R3⟩ := S2.heap.write (w' := w2.putObj bi.blk (.loop { u with state := if jump.isNone then .ready else .done, pending := jump })) (to := b) (bi' := bi) hbi2 (by rw [hb2]; simp) (.inl ⟨rfl, rfl⟩) rfl (by simp)
          (fun k hk => World.putObj_heap_other hk) rfl rfl rfl (.loop (if ex2 = .normal then .ready else .done ex2) tm2 ps2 asg2 bd2)
          (fun β' m' => ⟨_, World.putObj_heap_same hlt2, by rw [hj]; cases ex2 <;> simp [LStRel, jumpOf], hu3, hu4, hu5, fun i hi hi' => (hu6 i hi hi').mono m'⟩)
        rw [Heap.put_put] at R3
        have hsame3 : ∀ id, β3 id = β2 id := fun id => by
          by_cases e : id = b
          · rw [e, hto3, hbi2]
          · exact hoth3 id e
        refine ⟨_, _, run_endRound jump hu1, .bool jump.isNone, β3, I2, rfl, m1.trans (m1'.trans (m2.trans m3)), R3, fun id hid => by rw [hsame3]; exact S2.fresh id hid,
          fun id hid => by rw [hsame3, hlow2 id (by omega), hsame1, hlow1 id hid], by omega, ?_⟩
        rw [hjn]
        exact .d _ _ (.bool _)
      cases ex2 with
      | normal => exact fin none rfl
      | exit i => exact fin (some (.exit i)) rfl
      | ret => exact fin (some .ret) rfl

end
end Go.Dv
