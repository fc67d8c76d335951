/- Blocks that loops over functions lay and end: what stays related. No condition. -/
import Derived.Test.YtjnllnigogpagadDvS
import Derived.RangeFuncRecord
namespace Go.Dv

section
variable {P : Program} {w0 : World} {I0 : Nat → Prop} {β : Nat → Option BI} {I : Nat → Prop} {w : World} {h : Heap}

theorem frozen_none {w : World} {a : Addr} (h : ∀ cs ty fr, w.heap[a.block]? ≠ some (.cells cs ty fr)) : w.frozen? a = false := by
  unfold World.frozen?
  split
  · rename_i hb; exact absurd hb (h _ _ _)
  · rfl

/-- A new block that nobody writes. -/
theorem Rel.extra (R : Rel P w0 I0 β I h w) (o : Obj) (ho : ∀ cs ty fr, o ≠ .cells cs ty fr) :
    Rel P w0 I0 β (fun b => I b ∨ b = w.heap.size) h (w.alloc o) ∧ Mono β I w β (fun b => I b ∨ b = w.heap.size) (w.alloc o) := by
  have hold : ∀ b, b < w.heap.size → (w.alloc o).heap[b]? = w.heap[b]? := fun b hb => heap_alloc_old w o b hb
  have hsz : (w.alloc o).heap.size = w.heap.size + 1 := by show (w.heap.push o).size = _; exact Array.size_push ..
  have m : Mono β I w β (fun b => I b ∨ b = w.heap.size) (w.alloc o) := ⟨fun _ _ h => h, fun _ h => .inl h, fun b hb => hold b (R.imm b hb).2⟩
  refine ⟨⟨fun b hb => (hold b (Nat.lt_of_lt_of_le hb R.size)).trans (R.old b hb), by rw [hsz]; exact Nat.le_succ_of_le R.size, R.os, R.tape, R.output, fun a => ?_, ?_, ?_, R.inj, ?_⟩, m⟩
  · rw [← R.cold a]
    by_cases e : a.block = w.heap.size
    · rw [frozen_none (w := w.alloc o) (a := a) (fun cs ty fr hh => by rw [e, heap_alloc_new] at hh; cases hh; exact ho _ _ _ rfl), frozen_none (w := w) (a := a) (fun cs ty fr hh => by rw [e] at hh; simp at hh)]
    · by_cases e2 : a.block < w.heap.size
      · exact frozen_alike (hold _ e2)
      · exact frozen_alike (by show (w.heap.push o)[a.block]? = _; rw [Array.getElem?_push, if_neg e])
  · rintro b (hb | rfl)
    · exact ⟨(R.imm b hb).1, by rw [hsz]; exact Nat.lt_succ_of_lt (R.imm b hb).2⟩
    · exact ⟨.inr R.size, by rw [hsz]; exact Nat.lt_succ_self _⟩
  · intro id bi hb
    have := R.own id bi hb
    refine ⟨this.1, by rw [hsz]; exact Nat.lt_succ_of_lt this.2.1, ?_⟩
    rintro (h1 | h1)
    · exact this.2.2 h1
    · exact absurd this.2.1 (by rw [h1]; exact Nat.lt_irrefl _)
  · intro id x hx
    obtain ⟨bi, hb, hr⟩ := R.live id x hx
    exact ⟨bi, hb, hr.mono m (hold _ (R.own id bi hb).2.1)⟩

/-- A block that is owned is given up, whatever becomes of it. -/
theorem Rel.kill {b : Nat} {bi : BI} {x : Blk} (R : Rel P w0 I0 β I h w) (hb : β b = some bi) (hlive : h b = some x) {w' : World} (hsz : w'.heap.size = w.heap.size)
    (hold : ∀ k, k ≠ bi.blk → w'.heap[k]? = w.heap[k]?) (hnc : ∀ cs ty fr, w'.heap[bi.blk]? ≠ some (.cells cs ty fr)) (hos : w'.os = w.os) (ht : w'.tape = w.tape) (hout : w'.output = w.output) :
    Rel P w0 I0 β I (h.put b none) w' ∧ Mono β I w β I w' := by
  have hbo := R.own b bi hb
  have m : Mono β I w β I w' := ⟨fun _ _ h => h, fun _ h => h, fun c hc => hold c (fun e => hbo.2.2 (e ▸ hc))⟩
  have hlv : ∀ id, h.put b none id ≠ none → id ≠ b ∧ h id ≠ none := fun id hid => by
    by_cases e : id = b
    · subst e; exact absurd (by simp [Heap.put]) hid
    · exact ⟨e, by simpa [Heap.put, e] using hid⟩
  refine ⟨⟨fun c hc => (hold c (fun e => absurd hbo.1 (by omega))).trans (R.old c hc), by rw [hsz]; exact R.size, hos.trans R.os, ht.trans R.tape, hout.trans R.output, fun a => ?_,
    fun c hc => ⟨(R.imm c hc).1, by rw [hsz]; exact (R.imm c hc).2⟩, fun id c hc => by rw [hsz]; exact R.own id c hc, fun id id' c c' h1 h2 e1 e2 hk => R.inj id id' c c' (hlv id h1).2 (hlv id' h2).2 e1 e2 hk, fun id y hy => ?_⟩, m⟩
  · rw [← R.cold a]
    by_cases e : a.block = bi.blk
    · obtain ⟨c, hc, hr⟩ := R.live b x hlive
      rw [hb] at hc; cases hc
      rw [hr.cold a e]
      exact frozen_none (fun cs ty fr hh => hnc cs ty fr (by rw [← e]; exact hh))
    · exact frozen_alike (hold _ e)
  · obtain ⟨hne, _⟩ := hlv id (by rw [hy]; simp)
    have hy' : h id = some y := by simpa [Heap.put, hne] using hy
    obtain ⟨c, hc, hr⟩ := R.live id y hy'
    have hcb : c.blk ≠ bi.blk := fun hk => hne (R.inj id b c bi (by simp [hy']) (by simp [hlive]) hc hb hk)
    exact ⟨c, hc, hr.mono m (hold _ hcb)⟩

/-! ### A mark is taken off -/

/-- All but one block, which holds no data. -/
structure Off (I : Nat → Prop) (w : World) (r : Nat) (I' : Nat → Prop) (w' : World) : Prop where
  none : ∃ ds, w.heap[r]? = some (.deferred ds)
  is : ∀ b, b ≠ r → I b → I' b
  heap : ∀ b, b ≠ r → w'.heap[b]? = w.heap[b]?

theorem Off.cells {I I' : Nat → Prop} {w w' : World} {r b : Nat} (o : Off I w r I' w') {cs : Array Value} {ty : TypeId} {fr : Nat × Nat} (hI : I b) (hb : w.heap[b]? = some (.cells cs ty fr)) :
    I' b ∧ w'.heap[b]? = some (.cells cs ty fr) := by
  obtain ⟨ds, hd⟩ := o.none
  have hne : b ≠ r := fun e => by rw [e, hd] at hb; cases hb
  exact ⟨o.is b hne hI, (o.heap b hne).trans hb⟩

theorem Off.map {I I' : Nat → Prop} {w w' : World} {r b : Nat} (o : Off I w r I' w') {es : Array MapEntry} {clock : Nat} (hI : I b) (hb : w.heap[b]? = some (.map es clock)) :
    I' b ∧ w'.heap[b]? = some (.map es clock) := by
  obtain ⟨ds, hd⟩ := o.none
  have hne : b ≠ r := fun e => by rw [e, hd] at hb; cases hb
  exact ⟨o.is b hne hI, (o.heap b hne).trans hb⟩

theorem TRel.off {I I' : Nat → Prop} {w w' : World} {r : Nat} (o : Off I w r I' w') {t : T} {x : Value} (h : TRel I w t x) : TRel I' w' t x := by
  induction h with
  | bool b => exact .bool b
  | int k n => exact .int k n
  | str s => exact .str s
  | nilp => exact .nilp
  | nils => exact .nils
  | nilm => exact .nilm
  | nilf => exact .nilf
  | nili => exact .nili
  | lst es a len cap esz cs ty fr vf hlen hs hI hb hcap hsz hc hv ih =>
    obtain ⟨h1, h2⟩ := o.cells hI hb
    exact .lst es a len cap esz cs ty fr vf hlen hs h1 h2 hcap hsz hc ih
  | imap es r ents clock kf xf hI hb hn hk hkv hx hxv ih1 ih2 =>
    obtain ⟨h1, h2⟩ := o.map hI hb
    exact .imap es r ents clock kf xf h1 h2 hn hk ih1 hx ih2

theorem VRel.off {I I' : Nat → Prop} {w w' : World} {r : Nat} (o : Off I w r I' w') {v : V} {x : Value} (h : VRel β I w v x) : VRel β I' w' v x := by
  induction h with
  | undef => exact .undef
  | d t x h => exact .d t x (h.off o)
  | ptr b i j bi hb => exact .ptr b i j bi hb
  | iptr cells j blk off cs ty fr vf hI hb hc hv =>
    obtain ⟨h1, h2⟩ := o.cells hI hb
    exact .iptr cells j blk off cs ty fr vf h1 h2 hc (fun k hk => (hv k hk).off o)
  | sl b off len esz cap bi a hb hz hblk hs ho hl hr => exact .sl b off len esz cap bi a hb hz hblk hs ho hl hr
  | map b bi hb => exact .map b bi hb
  | fn f caps xs hn hv ih => exact .fn f caps xs hn ih
  | agg cs xs hn hv ih => exact .agg cs xs hn ih
  | tup cs xs hn hv ih => exact .tup cs xs hn ih
  | yield b bi hb => exact .yield b bi hb
  | it b mb bi hb hm => exact .it b mb bi hb hm
  | emp a cap => exact .emp a cap
  | opq x h hb => exact .opq x h hb

theorem BlkRel.off {I I' : Nat → Prop} {w w' : World} {r : Nat} (o : Off I w r I' w') {bi : BI} {x : Blk} (hr : bi.blk ≠ r) (h : BlkRel P β I w bi x) : BlkRel P β I' w' bi x := by
  have hh := o.heap bi.blk hr
  cases x with
  | row es =>
    obtain ⟨cs, ty, h1, h2, h3, h4, h5⟩ := h
    exact ⟨cs, ty, hh.trans h1, h2, h3, h4, fun i j hi hj => let ⟨ho, x, hx, hv⟩ := h5 i j hi hj; ⟨ho, x, hx, hv.off o⟩⟩
  | map kvs =>
    obtain ⟨ents, clock, h1, h2, hbn, h3⟩ := h
    exact ⟨ents, clock, hh.trans h1, h2, hbn, fun i hi hi' => ⟨let ⟨xs, hx, hc⟩ := (h3 i hi hi').1; ⟨xs, hx, hc.1, fun j hj hj' => (hc.2 j hj hj').off o⟩, (h3 i hi hi').2.off o⟩⟩
  | loop st tm ps asg bd =>
    obtain ⟨r, h1, h2, h3, h4, h5, h6⟩ := h
    exact ⟨r, hh.trans h1, h2, h3, h4, h5, fun i hi hi' => (h6 i hi hi').off o⟩
  | iter mb since seen =>
    cases mb with
    | none => exact hh.trans h
    | some mb =>
      obtain ⟨bm, h1, h2⟩ := h
      exact ⟨bm, h1, hh.trans h2⟩

theorem putObj_off {r : Nat} {o : Obj} {ds : Option (List Deferred)} (hd : w.heap[r]? = some (.deferred ds)) : Off I w r (fun b => I b ∧ b ≠ r) (w.putObj r o) :=
  ⟨⟨ds, hd⟩, fun _ hb hi => ⟨hi, hb⟩, fun _ hb => World.putObj_heap_other hb⟩

/-- The block of a mark is shut. -/
theorem Rel.shut (R : Rel P w0 I0 β I h w) {r : Nat} (hI : I r) (hr : ¬ r < w0.heap.size) {ds : Option (List Deferred)} (hd : w.heap[r]? = some (.deferred ds)) :
    Rel P w0 I0 β (fun b => I b ∧ b ≠ r) h (w.putObj r (.deferred none)) := by
  have o := putObj_off (I := I) (o := .deferred none) hd
  have hlt : r < w.heap.size := (R.imm r hI).2
  refine ⟨fun b hb => (o.heap b (fun e => hr (e ▸ hb))).trans (R.old b hb), by simp; exact R.size, R.os, R.tape, R.output, fun a => ?_, fun b hb => ⟨(R.imm b hb.1).1, by simp; exact (R.imm b hb.1).2⟩,
    fun id bi hb => ?_, R.inj, fun id x hx => ?_⟩
  · rw [← R.cold a]
    by_cases e : a.block = r
    · rw [frozen_none (w := w.putObj r _) (a := a) (fun cs ty fr hh => by rw [e, World.putObj_heap_same hlt] at hh; cases hh), frozen_none (w := w) (a := a) (fun cs ty fr hh => by rw [e, hd] at hh; cases hh)]
    · exact frozen_alike (o.heap _ e)
  · have := R.own id bi hb
    exact ⟨this.1, by simp; exact this.2.1, fun hh => this.2.2 hh.1⟩
  · obtain ⟨bi, hb, hrel⟩ := R.live id x hx
    exact ⟨bi, hb, hrel.off o (fun e => (R.own id bi hb).2.2 (e ▸ hI))⟩

end
end Go.Dv
