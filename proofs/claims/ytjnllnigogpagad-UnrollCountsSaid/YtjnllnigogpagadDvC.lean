/- What it means that a state of the D machine stands for a world of the model; such relations outlive whatever does not touch their blocks. No condition. -/
import Derived.Test.YtjnllnigogpagadDvB
import Derived.Laws.Sem
import Derived.Laws.World
import Derived.Laws.Cells
import Derived.Laws.Tables
import Derived.Laws.Rows
namespace Go.Dv

/-- Where an owned block lies: the model's block, the first cell, the cells of an element, the elements that have room. -/
structure BI where
  blk : Nat
  base : Nat
  esz : Nat
  room : Nat

/-- A value of so many cells: a struct, or the one cell. -/
def mkV (agg : Bool) (xs : List Value) : Value := if agg then .agg xs.toArray else xs.getD 0 undef

/-- The value that stands for closed data, all in blocks of 'I'. -/
inductive TRel (I : Nat → Prop) (w : World) : T → Value → Prop
  | bool (b : Bool) : TRel I w (.bool b) (.bool b)
  | int (k : IntKind) (n : Int) : TRel I w (.int k n) (.int k n)
  | str (s : ByteArray) : TRel I w (.str s) (.string s)
  | nilp : TRel I w .nilp (.pointer none)
  | nils : TRel I w .nils (.slice none 0 0)
  | nilm : TRel I w .nilm (.map none)
  | nilf : TRel I w .nilf .nilFunc
  | nili : TRel I w .nili .nilIface
  | lst (es : List (List T)) (a : Addr) (len cap esz : Nat) (cs : Array Value) (ty : TypeId) (fr : Nat × Nat) (vf : Nat → Nat → Value)
      (hlen : len = es.length) (hs : a.spot = none) (hI : I a.block) (hb : w.heap[a.block]? = some (.cells cs ty fr)) (hcap : es.length ≤ cap)
      (hsz : ∀ (i : Nat) (h : i < es.length), (es[i]).length = esz)
      (hc : ∀ i j, i < es.length → j < esz → cs[a.off + i * esz + j]? = some (vf i j))
      (hv : ∀ (i j : Nat) (hi : i < es.length) (hj : j < (es[i]).length), TRel I w (es[i])[j] (vf i j)) :
      TRel I w (.lst esz es) (.slice (some a) len cap)
  | imap (es : List ((Bool × List T) × (Bool × List T))) (r : Nat) (ents : Array MapEntry) (clock : Nat) (kf xf : Nat → Nat → Value)
      (hI : I r) (hb : w.heap[r]? = some (.map ents clock)) (hn : ents.size = es.length)
      (hk : ∀ (i : Nat) (h : i < es.length) (h' : i < ents.size), (ents[i]).key = mkV (es[i]).1.1 ((List.range (es[i]).1.2.length).map (kf i)))
      (hkv : ∀ (i j : Nat) (h : i < es.length) (hj : j < (es[i]).1.2.length), TRel I w (es[i]).1.2[j] (kf i j))
      (hx : ∀ (i : Nat) (h : i < es.length) (h' : i < ents.size), (ents[i]).val = mkV (es[i]).2.1 ((List.range (es[i]).2.2.length).map (xf i)))
      (hxv : ∀ (i j : Nat) (h : i < es.length) (hj : j < (es[i]).2.2.length), TRel I w (es[i]).2.2[j] (xf i j)) :
      TRel I w (.imap es) (.map (some r))

/-- Closed cells stand for cells. -/
def TCells (I : Nat → Prop) (w : World) (ts : List T) (xs : List Value) : Prop :=
  xs.length = ts.length ∧ ∀ (i : Nat) (h : i < ts.length) (h' : i < xs.length), TRel I w ts[i] xs[i]

/-- A map's key. -/
def KRel (I : Nat → Prop) (w : World) (k : Bool × List T) (x : Value) : Prop := ∃ xs, x = mkV k.1 xs ∧ TCells I w k.2 xs

inductive VRel (β : Nat → Option BI) (I : Nat → Prop) (w : World) : V → Value → Prop
  | undef : VRel β I w .undef Go.undef
  | d (t : T) (x : Value) (h : TRel I w t x) : VRel β I w (.d t) x
  | ptr (b i j : Nat) (bi : BI) (hb : β b = some bi) : VRel β I w (.ptr b i j) (.pointer (some ⟨bi.blk, bi.base + i * bi.esz + j, none⟩))
  | iptr (cells : List T) (j blk o : Nat) (cs : Array Value) (ty : TypeId) (fr : Nat × Nat) (vf : Nat → Value)
      (hI : I blk) (hb : w.heap[blk]? = some (.cells cs ty fr))
      (hc : ∀ k, k < cells.length → cs[o + k]? = some (vf k))
      (hv : ∀ (k : Nat) (h : k < cells.length), TRel I w cells[k] (vf k)) :
      VRel β I w (.iptr cells j) (.pointer (some ⟨blk, o + j, none⟩))
  | sl (b off len esz cap : Nat) (bi : BI) (a : Addr) (hb : β b = some bi) (hz : bi.esz = esz) (hblk : a.block = bi.blk) (hs : a.spot = none)
      (ho : cap ≠ 0 → a.off = bi.base + off * bi.esz) (hl : len ≤ cap) (hr : off + cap ≤ bi.room) :
      VRel β I w (.sl b off len esz) (.slice (some a) len cap)
  | map (b : Nat) (bi : BI) (hb : β b = some bi) : VRel β I w (.map b) (.map (some bi.blk))
  | fn (f : Nat) (caps : List V) (xs : Array Value) (hn : xs.size = caps.length)
      (hv : ∀ (i : Nat) (h : i < caps.length) (h' : i < xs.size), VRel β I w caps[i] xs[i]) : VRel β I w (.fn f caps) (.func (.func f) #[] xs)
  | agg (cs : List V) (xs : Array Value) (hn : xs.size = cs.length)
      (hv : ∀ (i : Nat) (h : i < cs.length) (h' : i < xs.size), VRel β I w cs[i] xs[i]) : VRel β I w (.agg cs) (.agg xs)
  | tup (cs : List V) (xs : Array Value) (hn : xs.size = cs.length)
      (hv : ∀ (i : Nat) (h : i < cs.length) (h' : i < xs.size), VRel β I w cs[i] xs[i]) : VRel β I w (.tup cs) (.tuple xs)
  | yield (b : Nat) (bi : BI) (hb : β b = some bi) : VRel β I w (.yield b) (.func (.yield bi.blk) #[] #[])
  | it (b : Nat) (mb : Option Nat) (bi : BI) (hb : β b = some bi) (hm : ∀ m, mb = some m → β m ≠ none) : VRel β I w (.it b mb) (.pointer (some ⟨bi.blk, 0, none⟩))
  | emp (a : Addr) (cap : Nat) : VRel β I w .emp (.slice (some a) 0 cap)
  | opq (x : Value) (h : x.oneCell' = true) (hb : ∀ b, x ≠ .bool b) : VRel β I w .opq x

/-- The jump that a loop over a function has pending. -/
def jumpOf : Ex → Option Code
  | .normal => none
  | .exit id => some (.exit id)
  | .ret => some .ret

def LStRel (r : Loop) : LSt → Prop
  | .ready => r.state = .ready ∧ r.pending = none
  | .busy => r.state = .busy
  | .done ex => r.state = .done ∧ r.pending = jumpOf ex

/-- The loop's code, compiled. -/
def LCode (P : Program) (r : Loop) (asg bd : DCode) : Prop := ∃ pure', compCode P pure' r.assign = some asg ∧ compCode P pure' r.body = some bd ∧ asg.flat = true ∧ bd.flat = true

def BlkRel (P : Program) (β : Nat → Option BI) (I : Nat → Prop) (w : World) (bi : BI) : Blk → Prop
  | .row es =>
    ∃ cs ty, w.heap[bi.blk]? = some (.cells cs ty (0, 0)) ∧ bi.base + bi.room * bi.esz ≤ cs.size ∧ es.length ≤ bi.room ∧
      (∀ (i : Nat) (h : i < es.length), (es[i]).length = bi.esz) ∧
      (∀ (i j : Nat) (h : i < es.length) (hj : j < (es[i]).length), ((es[i])[j]).one = true ∧
        ∃ x, cs[bi.base + i * bi.esz + j]? = some x ∧ VRel β I w (es[i])[j] x)
  | .map kvs =>
    ∃ ents clock, w.heap[bi.blk]? = some (.map ents clock) ∧ ents.size = kvs.length ∧ (clock = ents.size ∧ ∀ (i : Nat) (h : i < ents.size), (ents[i]).born = i) ∧
      ∀ (i : Nat) (h : i < kvs.length) (h' : i < ents.size), KRel I w (kvs[i]).1 (ents[i]).key ∧ VRel β I w (kvs[i]).2 (ents[i]).val
  | .loop st tm ps asg bd =>
    ∃ r, w.heap[bi.blk]? = some (.loop r) ∧ LStRel r st ∧ r.params.toList = ps ∧ LCode P r asg bd ∧ r.tmps.size = tm.length ∧
      ∀ (i : Nat) (h : i < tm.length) (h' : i < r.tmps.size), VRel β I w tm[i] r.tmps[i]
  | .iter none _ _ => w.heap[bi.blk]? = some (.mapIter none 0 #[] 0)
  | .iter (some mb) since seen => ∃ bm, β mb = some bm ∧ w.heap[bi.blk]? = some (.mapIter (some bm.blk) since (if seen then #[0] else #[]) since)

variable {P : Program}

structure Rel (P : Program) (w0 : World) (I0 : Nat → Prop) (β : Nat → Option BI) (I : Nat → Prop) (h : Heap) (w : World) : Prop where
  old : ∀ b, b < w0.heap.size → w.heap[b]? = w0.heap[b]?
  size : w0.heap.size ≤ w.heap.size
  os : w.os = w0.os
  tape : w.tape = w0.tape
  output : w.output = w0.output
  cold : ∀ a, w.frozen? a = w0.frozen? a
  imm : ∀ b, I b → (I0 b ∨ w0.heap.size ≤ b) ∧ b < w.heap.size
  own : ∀ id bi, β id = some bi → w0.heap.size ≤ bi.blk ∧ bi.blk < w.heap.size ∧ ¬ I bi.blk
  inj : ∀ id id' bi bi', h id ≠ none → h id' ≠ none → β id = some bi → β id' = some bi' → bi.blk = bi'.blk → id = id'
  live : ∀ id x, h id = some x → ∃ bi, β id = some bi ∧ BlkRel P β I w bi x

/-- What was known stays known. -/
structure Mono (β : Nat → Option BI) (I : Nat → Prop) (w : World) (β' : Nat → Option BI) (I' : Nat → Prop) (w' : World) : Prop where
  bs : ∀ id bi, β id = some bi → β' id = some bi
  is : ∀ b, I b → I' b
  heap : ∀ b, I b → w'.heap[b]? = w.heap[b]?

theorem Mono.refl (β : Nat → Option BI) (I : Nat → Prop) (w : World) : Mono β I w β I w := ⟨fun _ _ h => h, fun _ h => h, fun _ _ => rfl⟩

theorem Mono.trans {β β' β'' : Nat → Option BI} {I I' I'' : Nat → Prop} {w w' w'' : World} (h : Mono β I w β' I' w') (k : Mono β' I' w' β'' I'' w'') : Mono β I w β'' I'' w'' :=
  ⟨fun id bi x => k.bs id bi (h.bs id bi x), fun b x => k.is b (h.is b x), fun b x => (k.heap b (h.is b x)).trans (h.heap b x)⟩

theorem TRel.mono {I I' : Nat → Prop} {w w' : World} (hi : ∀ b, I b → I' b) (hh : ∀ b, I b → w'.heap[b]? = w.heap[b]?) {t : T} {x : Value} (h : TRel I w t x) : TRel I' w' t x := by
  induction h with
  | bool b => exact .bool b
  | int k n => exact .int k n
  | str s => exact .str s
  | nilp => exact .nilp
  | nils => exact .nils
  | nilm => exact .nilm
  | nilf => exact .nilf
  | nili => exact .nili
  | lst es a len cap esz cs ty fr vf hlen hs hI hb hcap hsz hc hv ih =>
    exact .lst es a len cap esz cs ty fr vf hlen hs (hi _ hI) ((hh _ hI).trans hb) hcap hsz hc ih
  | imap es r ents clock kf xf hI hb hn hk hkv hx hxv ih1 ih2 =>
    exact .imap es r ents clock kf xf (hi _ hI) ((hh _ hI).trans hb) hn hk ih1 hx ih2

theorem TCells.mono {I I' : Nat → Prop} {w w' : World} (hi : ∀ b, I b → I' b) (hh : ∀ b, I b → w'.heap[b]? = w.heap[b]?) {ts : List T} {xs : List Value} (h : TCells I w ts xs) : TCells I' w' ts xs :=
  ⟨h.1, fun j hj hj' => (h.2 j hj hj').mono hi hh⟩

theorem KRel.mono {I I' : Nat → Prop} {w w' : World} (hi : ∀ b, I b → I' b) (hh : ∀ b, I b → w'.heap[b]? = w.heap[b]?) {ts : Bool × List T} {x : Value} (h : KRel I w ts x) : KRel I' w' ts x :=
  let ⟨xs, hx, hc⟩ := h
  ⟨xs, hx, hc.mono hi hh⟩

theorem VRel.mono {β β' : Nat → Option BI} {I I' : Nat → Prop} {w w' : World} (m : Mono β I w β' I' w') {v : V} {x : Value} (h : VRel β I w v x) : VRel β' I' w' v x := by
  induction h with
  | undef => exact .undef
  | d t x h => exact .d t x (h.mono m.is m.heap)
  | ptr b i j bi hb => exact .ptr b i j bi (m.bs _ _ hb)
  | iptr cells j blk o cs ty fr vf hI hb hc hv =>
    exact .iptr cells j blk o cs ty fr vf (m.is _ hI) ((m.heap _ hI).trans hb) hc (fun k hk => (hv k hk).mono m.is m.heap)
  | sl b off len esz cap bi a hb hz hblk hs ho hl hr => exact .sl b off len esz cap bi a (m.bs _ _ hb) hz hblk hs ho hl hr
  | map b bi hb => exact .map b bi (m.bs _ _ hb)
  | fn f caps xs hn hv ih => exact .fn f caps xs hn ih
  | agg cs xs hn hv ih => exact .agg cs xs hn ih
  | tup cs xs hn hv ih => exact .tup cs xs hn ih
  | yield b bi hb => exact .yield b bi (m.bs _ _ hb)
  | it b mb bi hb hm => exact .it b mb bi (m.bs _ _ hb) (fun k hk => by
      cases hbk : β k with
      | none => exact absurd hbk (hm k hk)
      | some bk => rw [m.bs _ _ hbk]; simp)
  | emp a cap => exact .emp a cap
  | opq x h hb => exact .opq x h hb

theorem BlkRel.mono {β β' : Nat → Option BI} {I I' : Nat → Prop} {w w' : World} (m : Mono β I w β' I' w') {bi : BI} (hh : w'.heap[bi.blk]? = w.heap[bi.blk]?) {x : Blk}
    (h : BlkRel P β I w bi x) : BlkRel P β' I' w' bi x := by
  cases x with
  | row es =>
    obtain ⟨cs, ty, h1, h2, h3, h4, h5⟩ := h
    exact ⟨cs, ty, hh.trans h1, h2, h3, h4, fun i j hi hj => let ⟨ho, x, hx, hv⟩ := h5 i j hi hj; ⟨ho, x, hx, hv.mono m⟩⟩
  | map kvs =>
    obtain ⟨ents, clock, h1, h2, hbn, h3⟩ := h
    exact ⟨ents, clock, hh.trans h1, h2, hbn, fun i hi hi' => ⟨(h3 i hi hi').1.mono m.is m.heap, (h3 i hi hi').2.mono m⟩⟩
  | loop st tm ps asg bd =>
    obtain ⟨r, h1, h2, h3, h4, h5, h6⟩ := h
    exact ⟨r, hh.trans h1, h2, h3, h4, h5, fun i hi hi' => (h6 i hi hi').mono m⟩
  | iter mb since seen =>
    cases mb with
    | none => exact hh.trans h
    | some mb =>
      obtain ⟨bm, h1, h2⟩ := h
      exact ⟨bm, m.bs _ _ h1, hh.trans h2⟩

/-- A related one-cell value is one cell of the model too. -/
theorem VRel.oneCell {β : Nat → Option BI} {I : Nat → Prop} {w : World} {v : V} {x : Value} (h : VRel β I w v x) (ho : v.one = true) : x.oneCell' = true := by
  cases h with
  | undef => simp [V.one] at ho
  | d t x h => cases h <;> rfl
  | ptr => rfl
  | iptr => rfl
  | sl => rfl
  | map => rfl
  | fn => rfl
  | agg => simp [V.one] at ho
  | tup => simp [V.one] at ho
  | yield => rfl
  | it => rfl
  | emp => rfl
  | opq x h hb => exact h

/-- Cells stand for cells. -/
def CRel (β : Nat → Option BI) (I : Nat → Prop) (w : World) (vs : List V) (xs : List Value) : Prop :=
  xs.length = vs.length ∧ ∀ (i : Nat) (h : i < vs.length) (h' : i < xs.length), VRel β I w vs[i] xs[i]

theorem CRel.nil {β : Nat → Option BI} {I : Nat → Prop} {w : World} : CRel β I w [] [] := ⟨rfl, fun i h => absurd h (by simp)⟩

theorem CRel.cons {β : Nat → Option BI} {I : Nat → Prop} {w : World} {v : V} {x : Value} {vs : List V} {xs : List Value} (h : VRel β I w v x) (hs : CRel β I w vs xs) :
    CRel β I w (v :: vs) (x :: xs) :=
  ⟨by simp [hs.1], fun i hi hi' => by
    cases i with
    | zero => exact h
    | succ i => exact hs.2 i (by simpa using hi) (by simpa using hi')⟩

theorem CRel.mono {β β' : Nat → Option BI} {I I' : Nat → Prop} {w w' : World} (m : Mono β I w β' I' w') {vs : List V} {xs : List Value} (h : CRel β I w vs xs) : CRel β' I' w' vs xs :=
  ⟨h.1, fun i hi hi' => (h.2 i hi hi').mono m⟩

theorem CRel.append {β : Nat → Option BI} {I : Nat → Prop} {w : World} : ∀ {vs us : List V} {xs ys : List Value}, CRel β I w vs xs → CRel β I w us ys → CRel β I w (vs ++ us) (xs ++ ys)
  | [], us, xs, ys, h1, h2 => by
    have : xs = [] := List.length_eq_zero_iff.1 h1.1
    subst this
    exact h2
  | v :: vs, us, [], ys, h1, h2 => by have := h1.1; simp at this
  | v :: vs, us, x :: xs, ys, h1, h2 => by
    refine .cons (h1.2 0 (by simp) (by simp)) (CRel.append ⟨by have := h1.1; simpa using this, fun i hi hi' => ?_⟩ h2)
    have := h1.2 (i + 1) (by simpa using hi) (by simpa using hi')
    simpa using this

theorem CRel.ofArray {β : Nat → Option BI} {I : Nat → Prop} {w : World} {vs : List V} {xs : Array Value} (hn : xs.size = vs.length)
    (hv : ∀ (i : Nat) (h : i < vs.length) (h' : i < xs.size), VRel β I w vs[i] xs[i]) : CRel β I w vs xs.toList :=
  ⟨by simpa using hn, fun i hi hi' => by
    have := hv i hi (by simpa using hi')
    simpa using this⟩

theorem CRel.array {β : Nat → Option BI} {I : Nat → Prop} {w : World} {vs : List V} {xs : Array Value} (h : CRel β I w vs xs.toList) (i : Nat) (hi : i < vs.length) (hi' : i < xs.size) :
    VRel β I w vs[i] xs[i] := by
  have := h.2 i hi (by rw [Array.length_toList]; exact hi')
  rw [Array.getElem_toList] at this
  exact this

theorem CRel.toArr {β : Nat → Option BI} {I : Nat → Prop} {w : World} {vs : List V} {xs : List Value} (h : CRel β I w vs xs) (i : Nat) (hi : i < vs.length) (hi' : i < xs.toArray.size) :
    VRel β I w vs[i] xs.toArray[i] := by
  have := h.2 i hi (by simpa using hi')
  simpa using this

theorem VRel.cellsRel {β : Nat → Option BI} {I : Nat → Prop} {w : World} {v : V} {x : Value} (h : VRel β I w v x) : CRel β I w v.cells x.cells.toList := by
  have one : ∀ (v : V) (x : Value), VRel β I w v x → CRel β I w [v] [x] := fun v x h => .cons h .nil
  cases h with
  | agg cs xs hn hv => exact .ofArray hn hv
  | undef => exact one _ _ .undef
  | d t x h =>
    have h' := h
    cases h <;> exact one _ _ (.d _ _ h')
  | ptr b i j bi hb => exact one _ _ (.ptr b i j bi hb)
  | iptr cells j blk o cs ty fr vf hI hb hc hv => exact one _ _ (.iptr cells j blk o cs ty fr vf hI hb hc hv)
  | sl b off len esz cap bi a hb hz hblk hs ho hl hr => exact one _ _ (.sl b off len esz cap bi a hb hz hblk hs ho hl hr)
  | map b bi hb => exact one _ _ (.map b bi hb)
  | fn f caps xs hn hv => exact one _ _ (.fn f caps xs hn hv)
  | tup cs xs hn hv => exact one _ _ (.tup cs xs hn hv)
  | yield b bi hb => exact one _ _ (.yield b bi hb)
  | it b mb bi hb hm => exact one _ _ (.it b mb bi hb hm)
  | emp a cap => exact one _ _ (.emp a cap)
  | opq x h hb =>
    cases x with
    | agg cs => simp [Value.oneCell'] at h
    | _ => exact one _ _ (.opq _ h hb)

/-! ### The heap changes -/

theorem BlkRel.cold {β : Nat → Option BI} {I : Nat → Prop} {w : World} {bi : BI} {x : Blk} (h : BlkRel P β I w bi x) (a : Addr) (ha : a.block = bi.blk) : w.frozen? a = false := by
  unfold World.frozen?
  rw [ha]
  cases x with
  | row es =>
    obtain ⟨cs, ty, hb, _⟩ := h
    rw [hb]
    simp
  | map kvs =>
    obtain ⟨ents, clock, hb, _⟩ := h
    rw [hb]
  | loop st tm ps asg bd =>
    obtain ⟨r, hb, _⟩ := h
    rw [hb]
  | iter mb since seen =>
    cases mb with
    | none =>
      have hb : w.heap[bi.blk]? = some (.mapIter none 0 #[] 0) := h
      rw [hb]
    | some mb =>
      obtain ⟨bm, _, hb⟩ := h
      rw [hb]

theorem frozen_alike {w w' : World} {a : Addr} (h : w'.heap[a.block]? = w.heap[a.block]?) : w'.frozen? a = w.frozen? a := by simp [World.frozen?, h]

/-- A new block. -/
theorem Rel.make {w0 : World} {I0 : Nat → Prop} {β : Nat → Option BI} {I : Nat → Prop} {h : Heap} {w w' : World} {fr : Nat} (R : Rel P w0 I0 β I h w) (hf : β fr = none)
    (o : Obj) (hh : w'.heap = w.heap.push o) (hos : w'.os = w.os) (ht : w'.tape = w.tape) (hout : w'.output = w.output) (bi : BI) (hbi : bi.blk = w.heap.size) (x : Blk)
    (hx : ∀ β', Mono β I w β' I w' → BlkRel P β' I w' bi x) :
    ∃ β', Mono β I w β' I w' ∧ (∀ id, id ≠ fr → β' id = β id) ∧ β' fr = some bi ∧ Rel P w0 I0 β' I (h.put fr (some x)) w' := by
  have hold : ∀ b, b < w.heap.size → w'.heap[b]? = w.heap[b]? := fun b hb => by
    rw [hh, Array.getElem?_push]; simp [Nat.ne_of_lt hb]
  have hsz : w'.heap.size = w.heap.size + 1 := by rw [hh]; simp
  have m : Mono β I w (fun id => if id = fr then some bi else β id) I w' :=
    ⟨fun id b hb => by
      by_cases e : id = fr
      · subst e; rw [hf] at hb; cases hb
      · simpa [e] using hb, fun _ h => h, fun b hb => hold b (R.imm b hb).2⟩
  refine ⟨_, m, fun id hid => by simp [hid], by simp, ?_⟩
  refine ⟨fun b hb => (hold b (Nat.lt_of_lt_of_le hb R.size)).trans (R.old b hb), by rw [hsz]; exact Nat.le_succ_of_le R.size, hos.trans R.os, ht.trans R.tape, hout.trans R.output, fun a => ?_,
    fun b hb => ⟨(R.imm b hb).1, by rw [hsz]; exact Nat.lt_succ_of_lt (R.imm b hb).2⟩, ?_, ?_, ?_⟩
  · rw [← R.cold a]
    by_cases e : a.block = w.heap.size
    · rw [(hx _ m).cold a (by rw [hbi]; exact e)]
      unfold World.frozen?
      rw [show w.heap[a.block]? = none by simp [e]]
    · by_cases e2 : a.block < w.heap.size
      · exact frozen_alike (hold _ e2)
      · exact frozen_alike (by rw [hh]; simp [Array.getElem?_push, e])
  · intro id b hb
    by_cases e : id = fr
    · simp only [e, if_true, Option.some.injEq] at hb
      subst hb
      rw [hbi, hsz]
      exact ⟨R.size, Nat.lt_succ_self _, fun hi => absurd (R.imm _ hi).2 (Nat.lt_irrefl _)⟩
    · simp only [e, if_false] at hb
      have := R.own id b hb
      exact ⟨this.1, by rw [hsz]; exact Nat.lt_succ_of_lt this.2.1, this.2.2⟩
  · intro id id' b b' h1 h2 e1 e2 hblk
    by_cases e : id = fr
    · by_cases e' : id' = fr
      · rw [e, e']
      · exfalso
        simp only [e, if_true, Option.some.injEq] at e1
        simp only [e', if_false] at e2
        subst e1
        have := (R.own id' b' e2).2.1
        rw [← hblk, hbi] at this
        exact Nat.lt_irrefl _ this
    · by_cases e' : id' = fr
      · exfalso
        simp only [e', if_true, Option.some.injEq] at e2
        simp only [e, if_false] at e1
        subst e2
        have := (R.own id b e1).2.1
        rw [hblk, hbi] at this
        exact Nat.lt_irrefl _ this
      · simp only [e, e', if_false] at e1 e2
        exact R.inj id id' b b' (by simpa [Heap.put, e] using h1) (by simpa [Heap.put, e'] using h2) e1 e2 hblk
  · intro id y hy
    by_cases e : id = fr
    · simp only [Heap.put, e, if_true, Option.some.injEq] at hy
      subst hy
      exact ⟨bi, by simp [e], hx _ m⟩
    · simp only [Heap.put, e, if_false] at hy
      obtain ⟨b, hb, hr⟩ := R.live id y hy
      exact ⟨b, by simpa [e] using hb, hr.mono m (hold _ (R.own id b hb).2.1)⟩

/-- A block that is owned changes; 'to': its name behind it (its own, or a new one, and the old one is dead then). -/
theorem Rel.write {w0 : World} {I0 : Nat → Prop} {β : Nat → Option BI} {I : Nat → Prop} {h : Heap} {w w' : World} {b to : Nat} {bi bi' : BI} (R : Rel P w0 I0 β I h w)
    (hb : β b = some bi) (hlive : h b ≠ none) (hto : to = b ∧ bi' = bi ∨ β to = none) (hblk : bi'.blk = bi.blk)
    (hsz : w'.heap.size = w.heap.size) (hold : ∀ k, k ≠ bi.blk → w'.heap[k]? = w.heap[k]?) (hos : w'.os = w.os) (ht : w'.tape = w.tape) (hout : w'.output = w.output) (x : Blk)
    (hx : ∀ β', Mono β I w β' I w' → BlkRel P β' I w' bi' x) :
    ∃ β', Mono β I w β' I w' ∧ (∀ id, id ≠ to → β' id = β id) ∧ β' to = some bi' ∧ Rel P w0 I0 β' I ((h.put b none).put to (some x)) w' := by
  have hbo := R.own b bi hb
  have m : Mono β I w (fun id => if id = to then some bi' else β id) I w' :=
    ⟨fun id c hc => by
      by_cases e : id = to
      · rcases hto with ⟨e1, e2⟩ | e1
        · subst e1; subst e; rw [hb] at hc; cases hc; simp [e2]
        · subst e; rw [e1] at hc; cases hc
      · simpa [e] using hc, fun _ h => h, fun c hc => hold c (fun e => hbo.2.2 (e ▸ hc))⟩
  refine ⟨_, m, fun id hid => by simp [hid], by simp, ?_⟩
  refine ⟨fun c hc => (hold c (fun e => absurd hbo.1 (by omega))).trans (R.old c hc), by rw [hsz]; exact R.size, hos.trans R.os, ht.trans R.tape, hout.trans R.output, fun a => ?_,
    fun c hc => ⟨(R.imm c hc).1, by rw [hsz]; exact (R.imm c hc).2⟩, ?_, ?_, ?_⟩
  · rw [← R.cold a]
    by_cases e : a.block = bi.blk
    · obtain ⟨y, hy⟩ : ∃ y, h b = some y := by
        cases hh : h b with
        | none => exact absurd hh hlive
        | some y => exact ⟨y, rfl⟩
      obtain ⟨c, hc, hr⟩ := R.live b y hy
      rw [hb] at hc; cases hc
      rw [(hx _ m).cold a (by rw [hblk]; exact e), hr.cold a e]
    · exact frozen_alike (hold _ e)
  · intro id c hc
    rw [hsz]
    by_cases e : id = to
    · simp only [e, if_true, Option.some.injEq] at hc
      subst hc; rw [hblk]; exact hbo
    · simp only [e, if_false] at hc
      exact R.own id c hc
  · have key : ∀ id c, id ≠ to → (h.put b none).put to (some x) id ≠ none → β id = some c → c.blk ≠ bi.blk := by
      intro id c e h1 hc hk
      have hne : id ≠ b := by
        intro e'; subst e'; simp [Heap.put, e] at h1
      have : id = b := R.inj id b c bi (by simpa [Heap.put, e, hne] using h1) hlive hc hb hk
      exact hne this
    intro id id' c c' h1 h2 e1 e2 hk
    by_cases e : id = to
    · by_cases e' : id' = to
      · rw [e, e']
      · exfalso
        simp only [e, if_true, Option.some.injEq] at e1
        simp only [e', if_false] at e2
        subst e1
        exact key id' c' e' h2 e2 (hk.symm.trans hblk)
    · by_cases e' : id' = to
      · exfalso
        simp only [e', if_true, Option.some.injEq] at e2
        simp only [e, if_false] at e1
        subst e2
        exact key id c e h1 e1 (hk.trans hblk)
      · simp only [e, e', if_false] at e1 e2
        have n1 : id ≠ b := by intro e3; subst e3; simp [Heap.put, e] at h1
        have n2 : id' ≠ b := by intro e3; subst e3; simp [Heap.put, e'] at h2
        exact R.inj id id' c c' (by simpa [Heap.put, e, n1] using h1) (by simpa [Heap.put, e', n2] using h2) e1 e2 hk
  · intro id y hy
    by_cases e : id = to
    · simp only [Heap.put, e, if_true, Option.some.injEq] at hy
      subst hy
      exact ⟨bi', by simp [e], hx _ m⟩
    · have hne : id ≠ b := by intro e'; subst e'; simp [Heap.put, e] at hy
      simp only [Heap.put, e, hne, if_false] at hy
      obtain ⟨c, hc, hr⟩ := R.live id y hy
      have hcb : c.blk ≠ bi.blk := fun hk => hne (R.inj id b c bi (by simp [hy]) hlive hc hb hk)
      exact ⟨c, by simpa [e] using hc, hr.mono m (hold _ hcb)⟩

theorem Heap.put_put (h : Heap) (b : Nat) (x y : Option Blk) : (h.put b x).put b y = h.put b y := by
  funext k; simp only [Heap.put]; split <;> rfl

/-- A block that is dead. -/
theorem Rel.drop {w0 : World} {I0 : Nat → Prop} {β : Nat → Option BI} {I : Nat → Prop} {h : Heap} {w : World} (R : Rel P w0 I0 β I h w) (b : Nat) : Rel P w0 I0 β I (h.put b none) w :=
  ⟨R.old, R.size, R.os, R.tape, R.output, R.cold, R.imm, R.own,
    fun id id' c c' h1 h2 e1 e2 hk => R.inj id id' c c' (fun e => h1 (by simp [Heap.put, e])) (fun e => h2 (by simp [Heap.put, e])) e1 e2 hk,
    fun id x hx => R.live id x (by
      simp only [Heap.put] at hx
      split at hx
      · cases hx
      · exact hx)⟩

/-- Only the count of draws has turned. -/
theorem Rel.same {w0 : World} {I0 : Nat → Prop} {β : Nat → Option BI} {I : Nat → Prop} {h : Heap} {w w' : World} (R : Rel P w0 I0 β I h w) (hh : w'.heap = w.heap) (hos : w'.os = w.os)
    (ht : w'.tape = w.tape) (hout : w'.output = w.output) : Rel P w0 I0 β I h w' ∧ Mono β I w β I w' := by
  have m : Mono β I w β I w' := ⟨fun _ _ h => h, fun _ h => h, fun b _ => by rw [hh]⟩
  refine ⟨⟨fun b hb => by rw [hh]; exact R.old b hb, by rw [hh]; exact R.size, hos.trans R.os, ht.trans R.tape, hout.trans R.output, fun a => (frozen_alike (by rw [hh])).trans (R.cold a), fun b hb => by rw [hh]; exact R.imm b hb,
    fun id bi hb => by rw [hh]; exact R.own id bi hb, R.inj, fun id x hx => ?_⟩, m⟩
  obtain ⟨bi, hb, hr⟩ := R.live id x hx
  exact ⟨bi, hb, hr.mono m (by rw [hh])⟩

end Go.Dv
