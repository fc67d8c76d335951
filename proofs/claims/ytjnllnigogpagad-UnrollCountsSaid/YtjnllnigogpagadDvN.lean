/- One step of the D machine is one operation of the model, calls included. No condition. -/
import Derived.Test.YtjnllnigogpagadDvM
import Derived.Test.YtjnllnigogpagadDvIn
namespace Go.Dv

section
variable {P : Program} {en : Nat → Prop} {w0 : World} {I0 : Nat → Prop} {β : Nat → Option BI} {I : Nat → Prop} {w : World} {h : Heap}

def Callable (P : Program) (f : Nat) : Prop := ∃ fn, P.funcs[f]? = some fn ∧ fn.body.isNone = false ∧ (fn.name == "runtime.NumGoroutine") = false

theorem callFunc_run {f : Nat} {args : Array Value} (hc : Callable P f) : (callFunc f args).run P w = .ok (.enter f args) w := by
  obtain ⟨fn, h1, h2, h3⟩ := hc
  simp only [callFunc, Sem.run_bind, run_program, Result.andThen_ok, h1, h2, h3, Bool.false_eq_true, if_false, Sem.run_pure]

/-- What stands behind a call, or a round: the result, and a heap that stands for the world. -/
def CallPost (P : Program) (w0 : World) (I0 : Nat → Prop) (β : Nat → Option BI) (I : Nat → Prop) (w : World) (nx : Nat) (v : V) (h' : Heap) (nx' : Nat) (e : Ending) (w' : World) : Prop :=
  ∃ x β' I', e = .returned x ∧ Mono β I w β' I' w' ∧ Rel P w0 I0 β' I' h' w' ∧ (∀ id, nx' ≤ id → β' id = none) ∧ (∀ id, id < nx → β' id = β id) ∧ nx ≤ nx' ∧ VRel β' I' w' v x

/-- A caller that is true to the model: what it says of a call, or of a round, holds of the model's, at every tape. -/
structure CallSound (P : Program) (cl : Caller) : Prop where
  fn : ∀ f args h nx v h' nx', cl (.fn f) args h nx = some (v, h', nx') → Callable P f ∧
    ∀ (w0 : World) (I0 : Nat → Prop) (β : Nat → Option BI) (I : Nat → Prop) (w : World) (xs : Array Value), Rel P w0 I0 β I h w → (∀ id, nx ≤ id → β id = none) → CRel β I w args xs.toList →
      Calls P f xs w (CallPost P w0 I0 β I w nx v h' nx')
  yd : ∀ b args h nx v h' nx', cl (.yd b) args h nx = some (v, h', nx') →
    ∀ (w0 : World) (I0 : Nat → Prop) (β : Nat → Option BI) (I : Nat → Prop) (w : World) (xs : Array Value), Rel P w0 I0 β I h w → (∀ id, nx ≤ id → β id = none) → CRel β I w args xs.toList →
      ∀ bi, β b = some bi → ∃ fn tmps assign body, (Instr.yield bi.blk xs).run P w = .ok (.round bi.blk fn tmps assign body) w ∧
        ∀ (rd : Option Nat) (k : Nat), RoundIn (Fw rd) k P bi.blk fn tmps assign body w (CallPost P w0 I0 β I w nx v h' nx')

/-- In the callee's own universe nothing is owned yet. -/
theorem Rel.start {J : Nat → Prop} (hJ : ∀ b, J b → b < w.heap.size) : Rel P w J (fun _ => none) J Heap.none w :=
  ⟨fun _ _ => rfl, Nat.le_refl _, rfl, rfl, rfl, fun _ => rfl, fun b hb => ⟨.inl hb, hJ b hb⟩, fun id bi hb => (by cases hb), fun id id' bi bi' h1 => absurd rfl h1, fun id x hx => (by cases hx)⟩

/-- Behind a call that has left all that was there as it was. -/
theorem Rel.behind (R : Rel P w0 I0 β I h w) {J : Nat → Prop} {β2 : Nat → Option BI} {I2 : Nat → Prop} {h2 : Heap} {w' : World} (R2 : Rel P w J β2 I2 h2 w') :
    Rel P w0 I0 β (fun b => I b ∨ (w.heap.size ≤ b ∧ b < w'.heap.size)) h w' ∧ Mono β I w β (fun b => I b ∨ (w.heap.size ≤ b ∧ b < w'.heap.size)) w' := by
  have m : Mono β I w β (fun b => I b ∨ (w.heap.size ≤ b ∧ b < w'.heap.size)) w' := ⟨fun _ _ h => h, fun _ h => .inl h, fun b hb => R2.old b (R.imm b hb).2⟩
  refine ⟨⟨fun b hb => (R2.old b (Nat.lt_of_lt_of_le hb R.size)).trans (R.old b hb), Nat.le_trans R.size R2.size, R2.os.trans R.os, R2.tape.trans R.tape, R2.output.trans R.output, fun a => (R2.cold a).trans (R.cold a), ?_, ?_, R.inj, ?_⟩, m⟩
  · rintro b (hb | hb)
    · exact ⟨(R.imm b hb).1, Nat.lt_of_lt_of_le (R.imm b hb).2 R2.size⟩
    · exact ⟨.inr (Nat.le_trans R.size hb.1), hb.2⟩
  · intro id bi hb
    have := R.own id bi hb
    refine ⟨this.1, Nat.lt_of_lt_of_le this.2.1 R2.size, ?_⟩
    rintro (h1 | h1)
    · exact this.2.2 h1
    · omega
  · intro id x hx
    obtain ⟨bi, hb, hr⟩ := R.live id x hx
    exact ⟨bi, hb, hr.mono m (R2.old _ (R.own id bi hb).2.1)⟩

theorem pcall_sound {cl : Caller} (hcl : CallSound P cl) {f : Nat} {args : List V} {v : V} (hp : pcall cl f args = some v) {J : Nat → Prop} (hJ : ∀ b, J b → b < w.heap.size) {xs : Array Value}
    (hx : CRel (fun _ => none) J w args xs.toList) :
    Callable P f ∧ Calls P f xs w fun e w' => ∃ x β2 I2 h2, e = .returned x ∧ Rel P w J β2 I2 h2 w' ∧ ∀ β', VRel β' (fun b => J b ∨ (w.heap.size ≤ b ∧ b < w'.heap.size)) w' v x := by
  unfold pcall at hp
  split at hp
  · rename_i v0 h2 nx2 hcall
    obtain ⟨hcb, hs⟩ := hcl.fn _ _ _ _ _ _ _ hcall
    refine ⟨hcb, (hs w J (fun _ => none) J w xs (Rel.start hJ) (fun _ _ => rfl) hx).mono ?_⟩
    rintro e w' ⟨x, β2, I2, rfl, m, R2, _, _, _, hv⟩
    refine ⟨x, β2, I2, h2, rfl, R2, fun β' => freezeV_ok R2 (fun b hb => ?_) (fun id bi hb => ?_) hp hv β'⟩
    · obtain ⟨h1, h3⟩ := R2.imm b hb
      rcases h1 with h1 | h1
      · exact .inl h1
      · exact .inr ⟨h1, h3⟩
    · have := R2.own id bi hb
      exact .inr ⟨this.1, this.2.1⟩
  · cases hp

theorem callPure_sound {cl : Caller} (hcl : CallSound P cl) {mode f : Nat} {args : List V} {v : V} (hp : callPure cl mode h f args = some v) (R : Rel P w0 I0 β I h w) {xs : Array Value}
    (hx : CRel β I w args xs.toList) :
    Callable P f ∧ Calls P f xs w fun e w' => ∃ x I', e = .returned x ∧ Mono β I w β I' w' ∧ Rel P w0 I0 β I' h w' ∧ VRel β I' w' v x := by
  unfold callPure at hp
  split at hp
  · rename_i hc
    have hx' : CRel (fun _ => none) I w args xs.toList := ⟨hx.1, fun i hi hi' => closed_any (List.all_eq_true.1 hc _ (List.getElem_mem hi)) (hx.2 i hi hi') _⟩
    obtain ⟨hcb, hs⟩ := pcall_sound hcl hp (fun b hb => (R.imm b hb).2) hx'
    refine ⟨hcb, hs.mono ?_⟩
    rintro e w' ⟨x, β2, I2, h2, rfl, R2, hv⟩
    obtain ⟨R', m⟩ := R.behind R2
    exact ⟨x, _, rfl, m, R', hv β⟩
  · split at hp
    · split at hp
      · rename_i as has
        split at hp
        · rename_i u hu
          split at hp
          · rename_i hflat
            cases hp
            obtain ⟨hl, hi⟩ := freezeList_ok has
            have hx' : CRel (fun _ => none) (fun b => b < w.heap.size) w as xs.toList := ⟨by rw [hx.1, hl], fun i hi1 hi' => lendV_ok R (hi i (by omega) hi1) (hx.2 i (by omega) hi') _⟩
            obtain ⟨hcb, hs⟩ := pcall_sound hcl hu (fun b hb => hb) hx'
            refine ⟨hcb, hs.mono ?_⟩
            rintro e w' ⟨x, β2, I2, h2, rfl, R2, hv⟩
            obtain ⟨R', m⟩ := R.behind R2
            exact ⟨x, _, rfl, m, R', flat_any hflat (hv β) _ _ _⟩
          · cases hp
        · cases hp
      · cases hp
    · cases hp

/-- A state of the machine stands for an act and a world. -/
structure SRel (P : Program) (en : Nat → Prop) (w0 : World) (I0 : Nat → Prop) (β : Nat → Option BI) (I : Nat → Prop) (s : St) (a : Act) (w : World) : Prop where
  heap : Rel P w0 I0 β I s.hp w
  tm : TmRel en β I w s.tm a
  fresh : ∀ id, s.nx ≤ id → β id = none

/-- The compiled operation, perhaps with closed arguments asked of a pure call. -/
def OpRel (P : Program) (pure' : Nat → Bool) (ops : Array Oper) (o : Oper) (d : DOper) : Prop :=
  ∃ d0, compOper P pure' ops o = some d0 ∧ (d = d0 ∨ ∃ f args, d0.op = .call 1 f args ∧ d = { d0 with op := .call 2 f args })

/-- What stands behind a step. -/
def StepPost (P : Program) (en : Nat → Prop) (w0 : World) (I0 : Nat → Prop) (β : Nat → Option BI) (I : Nat → Prop) (w : World) (fr : Nat) (s s' : St) (a' : Act) (w' : World) : Prop :=
  ∃ β' I', Mono β I w β' I' w' ∧ (∀ id, id < s.nx → id ≠ fr → β' id = β id) ∧ s.nx ≤ s'.nx ∧ SRel P en w0 I0 β' I' s' a' w'

theorem args_rel {tm : List V} {a : Act} (t : TmRel en β I w tm a) {xs : List Operand} {ys : List DOpnd} (hc : compOpnds xs = some ys) : CRel β I w (ys.map (evalOpnd tm)) (xs.map a.eval) := by
  obtain ⟨hl, hi⟩ := compOpnds_ok hc
  refine ⟨by simp [hl], fun i h1 h2 => ?_⟩
  simp only [List.getElem_map]
  exact t.opnd _ _ (hi i (by simpa using h1) (by simpa using h2))

/-- The forms of a call. -/
theorem compCall_inv {pure' : Nat → Bool} {c : Call} {d : DOp} (hc : compCall P pure' c = some d) (hd : (∃ m f args, d = .call m f args) ∨ ∃ x args, d = .callv x args) :
    (∃ f args, c.callee = .value (.func f) ∧ compOpnds c.args.toList = some args ∧ d = .call (if pure' f then 1 else 0) f args) ∨
    (∃ t args, c.callee = .value (.tmp t) ∧ compOpnds c.args.toList = some args ∧ d = .callv (.tmp t) args) := by
  unfold compCall at hc
  split at hc
  · rename_i f hcal
    simp only [Option.bind_eq_bind, Option.bind_eq_some_iff] at hc
    obtain ⟨fn, _, hc⟩ := hc
    split at hc
    · cases hc
    · simp only [Option.bind_eq_some_iff, Option.some.injEq] at hc
      obtain ⟨ys, hys, rfl⟩ := hc
      exact .inl ⟨f, ys, hcal, hys, rfl⟩
  · rename_i t hcal
    simp only [Option.bind_eq_bind, Option.bind_eq_some_iff, Option.some.injEq] at hc
    obtain ⟨ys, hys, rfl⟩ := hc
    exact .inr ⟨t, ys, hcal, hys, rfl⟩
  · exfalso
    split at hc
    · simp only [Option.bind_eq_bind, Option.bind_eq_some_iff] at hc
      obtain ⟨y, _, hc⟩ := hc
      split at hc <;> first
        | (cases hc; rcases hd with ⟨_, _, _, h⟩ | ⟨_, _, h⟩ <;> cases h)
        | (cases hc; done)
    · cases hc
  · exfalso
    split at hc
    · simp only [Option.bind_eq_bind, Option.bind_eq_some_iff, Option.some.injEq] at hc
      obtain ⟨_, _, _, _, rfl⟩ := hc
      rcases hd with ⟨_, _, _, h⟩ | ⟨_, _, h⟩ <;> cases h
    · cases hc
  · exfalso
    split at hc
    · simp only [Option.bind_eq_bind, Option.bind_eq_some_iff, Option.some.injEq] at hc
      obtain ⟨_, _, _, _, rfl⟩ := hc
      rcases hd with ⟨_, _, _, h⟩ | ⟨_, _, h⟩ <;> cases h
    · cases hc
  · exfalso
    split at hc
    · simp only [Option.bind_eq_bind, Option.bind_eq_some_iff] at hc
      obtain ⟨_, _, _, _, _, _, _, _, _, _, _, _, _, _, hc⟩ := hc
      split at hc
      · cases hc; rcases hd with ⟨_, _, _, h⟩ | ⟨_, _, h⟩ <;> cases h
      · cases hc
    · cases hc
  · cases hc

theorem compOp_call0 {pure' : Nat → Bool} {o : Op} {d : DOp} (hc : compOp0 P pure' o = some d) (hd : (∃ m f args, d = .call m f args) ∨ ∃ x args, d = .callv x args) :
    ∃ c, o = .call c ∧ compCall P pure' c = some d := by
  cases o with
  | call c => exact ⟨c, rfl, by simpa [compOp0] using hc⟩
  | move x => simp only [compOp0, Option.bind_eq_bind, Option.bind_eq_some_iff, Option.some.injEq] at hc; obtain ⟨_, _, rfl⟩ := hc; simp at hd
  | assign x => simp only [compOp0, Option.bind_eq_bind, Option.bind_eq_some_iff, Option.some.injEq] at hc; obtain ⟨_, _, rfl⟩ := hc; simp at hd
  | pick c a b => simp only [compOp0, Option.bind_eq_bind, Option.bind_eq_some_iff, Option.some.injEq] at hc; obtain ⟨_, _, _, _, _, _, rfl⟩ := hc; simp at hd
  | alloc t =>
    simp only [compOp0, Option.bind_eq_bind, Option.bind_eq_some_iff] at hc
    obtain ⟨_, _, hc⟩ := hc
    split at hc
    · cases hc; simp at hd
    · cases hc
  | box t x => simp only [compOp0, Option.bind_eq_bind, Option.bind_eq_some_iff, Option.some.injEq] at hc; obtain ⟨_, _, rfl⟩ := hc; simp at hd
  | build t ps =>
    simp only [compOp0, Option.bind_eq_bind, Option.bind_eq_some_iff] at hc
    obtain ⟨_, _, _, _, hc⟩ := hc
    split at hc
    · simp only [Option.bind_eq_some_iff, Option.some.injEq] at hc; obtain ⟨_, _, rfl⟩ := hc; simp at hd
    · simp only [Option.bind_eq_some_iff, Option.some.injEq] at hc; obtain ⟨_, _, rfl⟩ := hc; simp at hd
    · cases hc
  | buildSlice t n ps =>
    simp only [compOp0, Option.bind_eq_bind, Option.bind_eq_some_iff] at hc
    obtain ⟨_, _, _, _, _, _, _, _, hc⟩ := hc
    split at hc
    · cases hc; simp at hd
    · cases hc
  | load t a => simp only [compOp0, Option.bind_eq_bind, Option.bind_eq_some_iff, Option.some.injEq] at hc; obtain ⟨_, _, _, _, rfl⟩ := hc; simp at hd
  | store t a x => simp only [compOp0, Option.bind_eq_bind, Option.bind_eq_some_iff, Option.some.injEq] at hc; obtain ⟨_, _, _, _, _, _, rfl⟩ := hc; simp at hd
  | nilCheck x => simp only [compOp0, Option.bind_eq_bind, Option.bind_eq_some_iff, Option.some.injEq] at hc; obtain ⟨_, _, rfl⟩ := hc; simp at hd
  | binOp op t x y yt =>
    simp only [compOp0] at hc
    split at hc
    · cases hc
    · cases hc
    · simp only [Option.bind_eq_bind, Option.bind_eq_some_iff, Option.some.injEq] at hc; obtain ⟨_, _, _, _, _, _, rfl⟩ := hc; simp at hd
  | unOp op t x => simp only [compOp0, Option.bind_eq_bind, Option.bind_eq_some_iff, Option.some.injEq] at hc; obtain ⟨_, _, rfl⟩ := hc; simp at hd
  | convert a b x =>
    simp only [compOp0] at hc
    split at hc
    · simp only [Option.bind_eq_bind, Option.bind_eq_some_iff, Option.some.injEq] at hc; obtain ⟨_, _, rfl⟩ := hc; simp at hd
    · simp only [Option.bind_eq_bind, Option.bind_eq_some_iff, Option.some.injEq] at hc; obtain ⟨_, _, rfl⟩ := hc; simp at hd
    · cases hc
  | makeFunc fn first captured =>
    cases fn with
    | func f =>
      simp only [compOp0] at hc
      split at hc
      · simp only [Option.bind_eq_bind, Option.bind_eq_some_iff, Option.some.injEq] at hc; obtain ⟨_, _, rfl⟩ := hc; simp at hd
      · cases hc
    | _ => simp [compOp0] at hc
  | makeMap t r =>
    simp only [compOp0] at hc
    split at hc
    · simp only [Option.bind_eq_bind, Option.bind_eq_some_iff, Option.some.injEq] at hc; obtain ⟨_, _, rfl⟩ := hc; simp at hd
    · cases hc
  | makeSlice t l c =>
    simp only [compOp0, Option.bind_eq_bind, Option.bind_eq_some_iff] at hc
    obtain ⟨_, _, _, _, _, _, _, _, hc⟩ := hc
    split at hc
    · simp only [Option.bind_eq_some_iff, Option.some.injEq] at hc; obtain ⟨_, _, _, _, rfl⟩ := hc; simp at hd
    · cases hc
  | slice t x lo hi mx =>
    cases mx with
    | some m => simp [compOp0] at hc
    | none =>
      simp only [compOp0] at hc
      split at hc
      · simp only [Option.bind_eq_bind, Option.bind_eq_some_iff, Option.some.injEq] at hc; obtain ⟨_, _, _, _, _, _, rfl⟩ := hc; simp at hd
      · simp only [Option.bind_eq_bind, Option.bind_eq_some_iff, Option.some.injEq] at hc; obtain ⟨_, _, _, _, _, _, _, _, rfl⟩ := hc; simp at hd
      · split at hc
        · simp only [Option.bind_eq_bind, Option.bind_eq_some_iff, Option.some.injEq] at hc; obtain ⟨_, _, _, _, _, _, _, _, rfl⟩ := hc; simp at hd
        · cases hc
      · simp only [Option.bind_eq_bind, Option.bind_eq_some_iff, Option.some.injEq] at hc; obtain ⟨_, _, _, _, _, _, _, _, rfl⟩ := hc; simp at hd
      · cases hc
  | fieldAddr s x f =>
    simp only [compOp0, Option.bind_eq_bind, Option.bind_eq_some_iff] at hc
    obtain ⟨_, _, _, _, hc⟩ := hc
    split at hc
    · cases hc
    · simp only [Option.bind_eq_some_iff, Option.some.injEq] at hc; obtain ⟨_, _, rfl⟩ := hc; simp at hd
  | field s x f => simp only [compOp0, Option.bind_eq_bind, Option.bind_eq_some_iff, Option.some.injEq] at hc; obtain ⟨_, _, _, _, _, _, rfl⟩ := hc; simp at hd
  | indexAddr t x ix =>
    simp only [compOp0] at hc
    split at hc
    · simp only [Option.bind_eq_bind, Option.bind_eq_some_iff, Option.some.injEq] at hc; obtain ⟨_, _, _, _, _, _, rfl⟩ := hc; simp at hd
    · simp only [Option.bind_eq_bind, Option.bind_eq_some_iff, Option.some.injEq] at hc; obtain ⟨_, _, _, _, _, _, rfl⟩ := hc; simp at hd
    · cases hc
  | index t x ix =>
    simp only [compOp0] at hc
    split at hc
    · simp only [Option.bind_eq_bind, Option.bind_eq_some_iff, Option.some.injEq] at hc; obtain ⟨_, _, _, _, _, _, _, _, rfl⟩ := hc; simp at hd
    · simp only [Option.bind_eq_bind, Option.bind_eq_some_iff, Option.some.injEq] at hc; obtain ⟨_, _, _, _, rfl⟩ := hc; simp at hd
    · cases hc
  | lookup t m k ok =>
    simp only [compOp0] at hc
    split at hc
    · simp only [Option.bind_eq_bind, Option.bind_eq_some_iff, Option.some.injEq] at hc; obtain ⟨_, _, _, _, _, _, _, _, rfl⟩ := hc; simp at hd
    · cases hc
  | mapUpdate t m k x =>
    simp only [compOp0] at hc
    split at hc
    · simp only [Option.bind_eq_bind, Option.bind_eq_some_iff, Option.some.injEq] at hc; obtain ⟨_, _, _, _, _, _, _, _, rfl⟩ := hc; simp at hd
    · cases hc
  | extract x ix => simp only [compOp0, Option.bind_eq_bind, Option.bind_eq_some_iff, Option.some.injEq] at hc; obtain ⟨_, _, rfl⟩ := hc; simp at hd
  | range t x =>
    simp only [compOp0] at hc
    split at hc
    · simp only [Option.bind_eq_bind, Option.bind_eq_some_iff, Option.some.injEq] at hc; obtain ⟨_, _, rfl⟩ := hc; simp at hd
    · cases hc
  | next x str =>
    cases str with
    | true => simp [compOp0] at hc
    | false => simp only [compOp0, Option.bind_eq_bind, Option.bind_eq_some_iff, Option.some.injEq] at hc; obtain ⟨_, _, rfl⟩ := hc; simp at hd
  | entry x => simp only [compOp0, Option.bind_eq_bind, Option.bind_eq_some_iff, Option.some.injEq] at hc; obtain ⟨_, _, rfl⟩ := hc; simp at hd
  | _ => simp [compOp0] at hc

theorem compOp_call {pure' : Nat → Bool} {o : Op} {d : DOp} (hc : compOp P pure' o = some d) (hd : (∃ m f args, d = .call m f args) ∨ ∃ x args, d = .callv x args) :
    ∃ c, o = .call c ∧ compCall P pure' c = some d := by
  unfold compOp at hc
  split at hc
  · rename_i d' hd'
    cases hc
    exact compOp_call0 hd' hd
  · cases hc
    rcases hd with ⟨_, _, _, h⟩ | ⟨_, _, h⟩ <;> cases h

/-- A step that is wanted. -/
theorem step_wp {r : Option Nat} {n : Nat} {cl : Caller} (hcl : CallSound P cl) {pure' : Nat → Bool} {ops : Array Oper} {o : Oper} {d : DOper} {fr : Nat} {s s' : St} {a : Act} {K : Act → World → Prop} {Q : Exit → Act → World → Prop}
    (ho : OpRel P pure' ops o d) (S : SRel P en w0 I0 β I s a w) (hf : β fr = none) (hlt : fr < s.nx) (hw : wanted d.guard s.tm = true) (hs : stepOp cl fr d s = some s')
    (hK : ∀ a' w', StepPost P en w0 I0 β I w fr s s' a' w' → K a' w') : o.wpIn (Fw r) n P a w K Q := by
  obtain ⟨d0, hd0, hrel⟩ := ho
  simp only [compOper, Option.bind_eq_bind, Option.bind_eq_some_iff, Option.some.injEq] at hd0
  obtain ⟨op, hop, g, hg, rfl⟩ := hd0
  have hdst : d.dst = o.dst := by rcases hrel with rfl | ⟨f, args, _, rfl⟩ <;> rfl
  unfold stepOp at hs
  rw [if_pos hw] at hs
  -- a call's world
  have callK : ∀ {f : Nat} {xs : Array Value} {v : V} {h' : Heap} {nx' : Nat}, (execOp a.eval o).run P w = .ok (.enter f xs) w →
      (Calls P f xs w (CallPost P w0 I0 β I w s.nx v h' nx')) →
      s' = { tm := putSlot s.tm d.dst v, hp := h', nx := nx' } → (∀ c, o.op ≠ .defer c) → o.wpIn (Fw r) n P a w K Q := by
    intro f xs v h' nx' hrun hcalls hs' hnd
    refine oper_in hnd ?_ (fun row args w' e => by rw [hrun] at e; cases e)
    unfold Oper.wp
    rw [hrun, Oper.upon_enter]
    refine hcalls.mono ?_
    rintro e w' ⟨x, β', I', rfl, m, R', hfresh, hkeep, hle, hv⟩
    refine hK _ _ ⟨β', I', m, fun id hid _ => hkeep id hid, by rw [hs']; exact hle, ?_⟩
    rw [hs', hdst]
    exact ⟨R', (S.tm.mono m).put _ hv, hfresh⟩
  have resolveF : ∀ {c : Call} {f : Nat} {args : List DOpnd}, o.op = .call c → c.callee = .value (.func f) → compOpnds c.args.toList = some args → Callable P f →
      (execOp a.eval o).run P w = .ok (.enter f (c.args.map a.eval)) w := by
    intro c f args hoc hcal _ hcb
    simp [execOp, hoc, resolve, hcal, Act.eval, Deferred.ofValue, invoke, callFunc_run hcb]
  cases hdop : d.op with
  | call mode f args =>
    rw [hdop] at hs
    simp only at hs
    have hisc : ∃ m, op = .call m f args := by
      rcases hrel with rfl | ⟨f', args', h1, rfl⟩
      · exact ⟨mode, hdop⟩
      · simp only at h1 hdop
        cases hdop
        exact ⟨1, h1⟩
    obtain ⟨m, rfl⟩ := hisc
    obtain ⟨c, hoc, hcc⟩ := compOp_call hop (.inl ⟨_, _, _, rfl⟩)
    rcases compCall_inv hcc (.inl ⟨_, _, _, rfl⟩) with ⟨f', args', hcal, hargs, he⟩ | ⟨t, args', _, _, he⟩
    · cases he
      have hcr : CRel β I w (args.map (evalOpnd s.tm)) (c.args.map a.eval).toList := by rw [Array.toList_map]; exact args_rel S.tm hargs
      split at hs
      · split at hs
        · rename_i v h' n hcall
          obtain ⟨hcb, hsound⟩ := hcl.fn _ _ _ _ _ _ _ hcall
          exact callK (resolveF hoc hcal hargs hcb) (hsound w0 I0 β I w _ S.heap S.fresh hcr) (by cases hs; rfl) (fun c' e => by rw [hoc] at e; cases e)
        · cases hs
      · split at hs
        · rename_i v hpure
          obtain ⟨hcb, hsound⟩ := callPure_sound hcl hpure S.heap hcr
          refine callK (nx' := s.nx) (resolveF hoc hcal hargs hcb) (hsound.mono ?_) (by cases hs; rfl) (fun c' e => by rw [hoc] at e; cases e)
          rintro e w' ⟨x, I', rfl, m, R', hv⟩
          exact ⟨x, β, I', rfl, m, R', S.fresh, fun _ _ => rfl, Nat.le_refl _, hv⟩
        · cases hs
    · cases he
  | callv x args =>
    rw [hdop] at hs
    simp only at hs
    have hisc : op = .callv x args := by
      rcases hrel with rfl | ⟨f', args', h1, rfl⟩
      · exact hdop
      · simp only at hdop; cases hdop
    subst hisc
    obtain ⟨c, hoc, hcc⟩ := compOp_call hop (.inr ⟨_, _, rfl⟩)
    rcases compCall_inv hcc (.inr ⟨_, _, rfl⟩) with ⟨f', args', _, _, he⟩ | ⟨t, args', hcal, hargs, he⟩
    · cases he
    · cases he
      split at hs
      · rename_i f caps hfn
        split at hs
        · rename_i v h' n hcall
          obtain ⟨hcb, hsound⟩ := hcl.fn _ _ _ _ _ _ _ hcall
          have hfv : VRel β I w (.fn f caps) (a.eval (.tmp t)) := by rw [← hfn]; exact S.tm.opnd (.tmp t) (.tmp t) rfl
          have hcr : CRel β I w (args.map (evalOpnd s.tm)) (c.args.map a.eval).toList := by rw [Array.toList_map]; exact args_rel S.tm hargs
          generalize hfa : a.eval (.tmp t) = fa at hfv
          cases hfv with
          | fn _ _ xs hn hvs =>
            have hcr2 : CRel β I w (args.map (evalOpnd s.tm) ++ caps) (c.args.map a.eval ++ xs).toList := by
              rw [Array.toList_append]
              exact hcr.append (.ofArray hn hvs)
            refine callK ?_ (hsound w0 I0 β I w _ S.heap S.fresh hcr2) (by cases hs; rfl) (fun c' e => by rw [hoc] at e; cases e)
            simp [execOp, hoc, resolve, hcal, hfa, Deferred.ofValue, invoke, callFunc_run hcb]
        · cases hs
      · rename_i b hfn
        split at hs
        · rename_i v h' nx' hcall
          have hfv : VRel β I w (.yield b) (a.eval (.tmp t)) := by rw [← hfn]; exact S.tm.opnd (.tmp t) (.tmp t) rfl
          have hcr : CRel β I w (args.map (evalOpnd s.tm)) (c.args.map a.eval).toList := by rw [Array.toList_map]; exact args_rel S.tm hargs
          generalize hfa : a.eval (.tmp t) = fa at hfv
          cases hfv with
          | yield _ bi hb =>
            obtain ⟨fn, tmps, assign, body, hy, hround⟩ := hcl.yd _ _ _ _ _ _ _ hcall w0 I0 β I w _ S.heap S.fresh hcr bi hb
            have hrun : (execOp a.eval o).run P w = .ok (.round bi.blk fn tmps assign body) w := by
              simp [execOp, hoc, resolve, hcal, hfa, Deferred.ofValue, invoke, hy]
            have hnd : ∀ c, o.op ≠ .defer c := fun c' e => by rw [hoc] at e; cases e
            refine ⟨fun _ _ => trivial, ?_⟩
            have e : o.semAt (Fw r).round a.eval = execOp a.eval o := by
              cases r with
              | none => rfl
              | some l => exact Oper.semAt_some l _ _ hnd
            rw [e, hrun, Oper.uponIn_round]
            refine ⟨fun hh => by simp [Fw_depth] at hh, (hround r (n - 1)).mono ?_⟩
            rintro e w' ⟨x, β', I', rfl, m, R', hfresh, hkeep, hle, hv⟩
            cases hs
            refine hK _ _ ⟨β', I', m, fun id hid _ => hkeep id hid, hle, ?_⟩
            rw [hdst]
            exact ⟨R', (S.tm.mono m).put _ hv, hfresh⟩
        · cases hs
      · cases hs
  | _ =>
    have hop' : op = d.op := by
      rcases hrel with rfl | ⟨f', args', h1, rfl⟩
      · rfl
      · simp only at hdop; cases hdop
    subst hop'
    rw [hdop] at hs hop
    simp only at hs
    split at hs
    · rename_i v h' hev
      obtain ⟨rv, w', β', hrun, m, hkeep, R', hv⟩ := op_sim hop (fun _ _ _ e => by cases e) (fun _ _ e => by cases e) S.tm.opnd S.heap hf hev
      have post : StepPost P en w0 I0 β I w fr s s' (a.put o.dst rv) w' := by
        refine ⟨β', I, m, fun id _ hne => hkeep id hne, by cases hs; exact Nat.le_refl _, ?_⟩
        cases hs
        refine ⟨R', by rw [hdst]; exact (S.tm.mono m).put _ hv, fun id hid => ?_⟩
        rw [hkeep id (by simp only at hid; omega)]
        exact S.fresh id hid
      have hnd : ∀ c, o.op ≠ .defer c := fun c e => by
        rw [e] at hop
        simp only [compOp, compOp0] at hop
        first
          | (cases hop; done)
          | (cases hop; cases hev)
          | cases hev
      rcases hrun with hrun | ⟨hrun, rfl⟩
      · refine oper_in hnd ?_ (fun row args w' e => by rw [hrun] at e; cases e)
        unfold Oper.wp
        rw [hrun, Oper.upon_value]
        exact hK _ _ post
      · refine oper_in hnd ?_ (fun row args w' e => by rw [hrun] at e; cases e)
        unfold Oper.wp
        rw [hrun, Oper.upon_skip]
        exact hK _ _ post
    · cases hs

end
end Go.Dv
