/- What a function hands back, frozen; what it is lent; and slots: all stand for the model's values. No condition. -/
import Derived.Test.YtjnllnigogpagadDvL
namespace Go.Dv

section
variable {P : Program} {en : Nat → Prop} {w0 : World} {I0 : Nat → Prop} {β : Nat → Option BI} {I : Nat → Prop} {w : World} {h : Heap}

theorem freezeList_ok {α γ : Type} {f : α → Option γ} : ∀ {l : List α} {r : List γ}, freezeList f l = some r →
    r.length = l.length ∧ ∀ (i : Nat) (hi : i < l.length) (hi' : i < r.length), f l[i] = some r[i]
  | [], r, hf => by cases hf; exact ⟨rfl, fun i hi => absurd hi (by simp)⟩
  | x :: l, r, hf => by
    unfold freezeList at hf
    split at hf
    · rename_i y hy
      split at hf
      · rename_i ys hys
        cases hf
        obtain ⟨hl, ih⟩ := freezeList_ok hys
        refine ⟨by simp [hl], fun i hi hi' => ?_⟩
        cases i with
        | zero => exact hy
        | succ i => simpa using ih i (by simpa using hi) (by simpa using hi')
      · cases hf
    · cases hf

/-- What stands for owned data stands for immutable data, once nobody writes it. 'J': the blocks that are immutable then. -/
theorem freezeT_ok (R : Rel P w0 I0 β I h w) {J : Nat → Prop} (hI : ∀ b, I b → J b) (hO : ∀ id bi, β id = some bi → J bi.blk) :
    ∀ (n : Nat) (v : V) (t : T) (x : Value), freezeT h n v = some t → VRel β I w v x → TRel J w t x := by
  intro n
  induction n with
  | zero =>
    intro v t x hf hv
    cases v <;> simp only [freezeT] at hf <;> first | (cases hf; done) | skip
    cases hf
    cases hv with | d _ _ ht => exact ht.mono hI (fun _ _ => rfl)
  | succ n ih =>
    intro v t x hf hv
    cases hv with
    | d _ _ ht => simp only [freezeT, Option.some.injEq] at hf; subst hf; exact ht.mono hI (fun _ _ => rfl)
    | sl b off len z cap bi a hb hz hblk hs ho hl hr =>
      simp only [freezeT] at hf
      split at hf
      · rename_i es hh
        split at hf
        · rename_i hle
          split at hf
          · rename_i ts hts
            cases hf
            obtain ⟨bi', hb', hrel⟩ := R.live b _ hh
            rw [hb] at hb'; cases hb'
            obtain ⟨cs, ty, h1, h2, h3, h4, h5⟩ := hrel
            obtain ⟨htl, hti⟩ := freezeList_ok hts
            have hlen : ts.length = len := by rw [htl]; simp; omega
            have hrow : ∀ (i : Nat) (hi : i < ts.length), ∃ hi2 : off + i < es.length, (ts[i]).length = z ∧ ∀ (j : Nat) (hj : j < (ts[i]).length) (hj2 : j < (es[off + i]).length), freezeT h n (es[off + i])[j] = some (ts[i])[j] := fun i hi => by
              have hi2 : off + i < es.length := by omega
              have hi3 : i < ((es.drop off).take len).length := by rw [← htl]; exact hi
              have hr0 := hti i hi3 hi
              have e1 : ((es.drop off).take len)[i] = es[off + i] := by simp
              rw [e1] at hr0
              obtain ⟨hrl, hri⟩ := freezeList_ok hr0
              exact ⟨hi2, by rw [hrl, h4 _ hi2, hz], fun j hj hj2 => hri j hj2 hj⟩
            have hcell : ∀ (i j : Nat) (hi : i < ts.length) (hj : j < (ts[i]).length), ∃ u, cs[a.off + i * z + j]? = some u ∧ TRel J w (ts[i])[j] u := fun i j hi hj => by
              obtain ⟨hi2, hrl, hrj⟩ := hrow i hi
              have hj2 : j < (es[off + i]).length := by rw [h4 _ hi2, hz, ← hrl]; exact hj
              obtain ⟨_, u, hu, hvu⟩ := h5 (off + i) j hi2 hj2
              refine ⟨u, ?_, ih _ _ _ (hrj j hj hj2) hvu⟩
              rw [ho (by omega), ← hu, hz]
              congr 1
              rw [Nat.add_mul]; omega
            refine .lst ts a len cap z cs ty (0, 0) (fun i j => cs.getD (a.off + i * z + j) Go.undef) hlen.symm hs (by rw [hblk]; exact hO _ _ hb) (by rw [hblk]; exact h1) (by omega) (fun i hi => (hrow i hi).2.1) (fun i j hi hj => ?_) (fun i j hi hj => ?_)
            · obtain ⟨u, hu, _⟩ := hcell i j hi (by rw [(hrow i hi).2.1]; exact hj)
              simp [hu]
            · obtain ⟨u, hu, htu⟩ := hcell i j hi hj
              simpa [hu] using htu
          · cases hf
        · cases hf
      · cases hf
    | map b bi hb =>
      simp only [freezeT] at hf
      split at hf
      · rename_i kvs hh
        split at hf
        · rename_i ts hts
          cases hf
          obtain ⟨bi', hb', hrel⟩ := R.live b _ hh
          rw [hb] at hb'; cases hb'
          obtain ⟨ents, clock, h1, h2, hbn, h3⟩ := hrel
          obtain ⟨htl, hti⟩ := freezeList_ok hts
          have hk : ∀ (i : Nat), ∃ xs : List Value × List Value, ∀ (hi : i < ts.length) (hi' : i < ents.size), (ents[i]).key = mkV (ts[i]).1.1 xs.1 ∧ TCells J w (ts[i]).1.2 xs.1 ∧
              (ents[i]).val = mkV (ts[i]).2.1 xs.2 ∧ TCells J w (ts[i]).2.2 xs.2 := fun i => by
            by_cases hi : i < ts.length
            · have hi2 : i < kvs.length := by omega
              have hi3 : i < ents.size := by omega
              obtain ⟨⟨xs, hkx, hkc⟩, hvx⟩ := h3 i hi2 hi3
              have hr0 := hti i hi2 hi
              simp only [Option.map_eq_some_iff] at hr0
              obtain ⟨ts2, hts2, he⟩ := hr0
              obtain ⟨hl2, hf2⟩ := freezeList_ok hts2
              have hcr := hvx.cellsRel
              have htc : TCells J w ts2 (ents[i]).val.cells.toList := ⟨by rw [hcr.1, hl2], fun j hj hj' => ih _ _ _ (hf2 j (by omega) hj) (hcr.2 j (by omega) hj')⟩
              refine ⟨(xs, (ents[i]).val.cells.toList), fun _ _ => ?_⟩
              rw [← he]
              refine ⟨hkx, hkc.mono hI (fun _ _ => rfl), ?_, htc⟩
              cases hag : (kvs[i]).2.isAgg with
              | true =>
                cases hvv : (kvs[i]).2 with
                | agg cs =>
                  rw [hvv] at hvx
                  generalize (ents[i]).val = ev at hvx
                  cases hvx with
                  | agg _ xs2 _ _ => simp [mkV, Value.cells]
                | _ => rw [hvv] at hag; cases hag
              | false =>
                have h1l : (kvs[i]).2.cells = [(kvs[i]).2] := by
                  cases hvv : (kvs[i]).2 with
                  | agg cs => rw [hvv] at hag; cases hag
                  | _ => rfl
                rw [h1l] at hf2 hts2
                have hft : ∃ t2, freezeT h n (kvs[i]).2 = some t2 := by
                  unfold freezeList at hts2
                  split at hts2
                  · exact ⟨_, by assumption⟩
                  · cases hts2
                obtain ⟨t2, ht2⟩ := hft
                have htr := ih _ _ _ ht2 hvx
                have hone : (ents[i]).val.cells.toList = [(ents[i]).val] := by
                  generalize (ents[i]).val = ev at htr
                  cases htr <;> rfl
                rw [hone]
                simp [mkV]
            · exact ⟨([], []), fun hi' => absurd hi' hi⟩
          have hX := fun i => Classical.choose_spec (hk i)
          have hlen1 : ∀ (i : Nat) (hi : i < ts.length), (Classical.choose (hk i)).1.length = (ts[i]).1.2.length := fun i hi => ((hX i) hi (by omega)).2.1.1
          have hlen2 : ∀ (i : Nat) (hi : i < ts.length), (Classical.choose (hk i)).2.length = (ts[i]).2.2.length := fun i hi => ((hX i) hi (by omega)).2.2.2.1
          have hmap : ∀ (l : List Value) (m : Nat), l.length = m → (List.range m).map (fun j => l.getD j Go.undef) = l := fun l m hm => by
            apply List.ext_getElem
            · simp [hm]
            · intro k hk1 hk2; simp [hk2]
          refine .imap ts bi.blk ents clock (fun i j => (Classical.choose (hk i)).1.getD j Go.undef) (fun i j => (Classical.choose (hk i)).2.getD j Go.undef) (hO _ _ hb) h1 (by omega)
            (fun i hi hi' => by rw [hmap _ _ (hlen1 i hi)]; exact ((hX i) hi hi').1) (fun i j hi hj => ?_)
            (fun i hi hi' => by rw [hmap _ _ (hlen2 i hi)]; exact ((hX i) hi hi').2.2.1) (fun i j hi hj => ?_)
          · have h6 := ((hX i) hi (by omega)).2.1
            have hj2 : j < (Classical.choose (hk i)).1.length := by rw [hlen1 i hi]; exact hj
            have := h6.2 j hj hj2
            simpa [hj2] using this
          · have h6 := ((hX i) hi (by omega)).2.2.2
            have hj2 : j < (Classical.choose (hk i)).2.length := by rw [hlen2 i hi]; exact hj
            have := h6.2 j hj hj2
            simpa [hj2] using this
        · cases hf
      · cases hf
    | undef => cases hf
    | ptr => cases hf
    | iptr => cases hf
    | fn => cases hf
    | agg => cases hf
    | tup => cases hf
    | yield => cases hf
    | it => cases hf
    | emp => cases hf
    | opq => cases hf

theorem freezeLeaf_ok (R : Rel P w0 I0 β I h w) {J : Nat → Prop} (hI : ∀ b, I b → J b) (hO : ∀ id bi, β id = some bi → J bi.blk) {v u : V} {x : Value} (hf : freezeLeaf h v = some u) (hv : VRel β I w v x)
    (β' : Nat → Option BI) : VRel β' J w u x := by
  unfold freezeLeaf at hf
  split at hf
  · rename_i t ht
    cases hf
    exact .d _ _ (freezeT_ok R hI hO _ _ _ _ ht hv)
  · cases hf

theorem freezeCells_ok {J : Nat → Prop} {f : V → Option V} {β' : Nat → Option BI} (hf : ∀ v u x, f v = some u → VRel β I w v x → VRel β' J w u x) {vs us : List V} {xs : Array Value} (hl : freezeList f vs = some us)
    (hn : xs.size = vs.length) (hv : ∀ (i : Nat) (h : i < vs.length) (h' : i < xs.size), VRel β I w vs[i] xs[i]) :
    xs.size = us.length ∧ ∀ (i : Nat) (h : i < us.length) (h' : i < xs.size), VRel β' J w us[i] xs[i] := by
  obtain ⟨h1, h2⟩ := freezeList_ok hl
  exact ⟨by omega, fun i hi hi' => hf _ _ _ (h2 i (by omega) hi) (hv i (by omega) hi')⟩

theorem freezeAgg_ok (R : Rel P w0 I0 β I h w) {J : Nat → Prop} (hI : ∀ b, I b → J b) (hO : ∀ id bi, β id = some bi → J bi.blk) {v u : V} {x : Value} (hf : freezeAgg h v = some u) (hv : VRel β I w v x)
    (β' : Nat → Option BI) : VRel β' J w u x := by
  unfold freezeAgg at hf
  split at hf
  · split at hf
    · rename_i ts hts
      cases hf
      cases hv with
      | agg _ xs hn hvs =>
        obtain ⟨h1, h2⟩ := freezeCells_ok (fun v u x hf hv => freezeLeaf_ok R hI hO hf hv β') hts hn hvs
        exact .agg _ _ h1 h2
    · cases hf
  · exact freezeLeaf_ok R hI hO hf hv β'

theorem freezeV_ok (R : Rel P w0 I0 β I h w) {J : Nat → Prop} (hI : ∀ b, I b → J b) (hO : ∀ id bi, β id = some bi → J bi.blk) {v u : V} {x : Value} (hf : freezeV h v = some u) (hv : VRel β I w v x)
    (β' : Nat → Option BI) : VRel β' J w u x := by
  unfold freezeV at hf
  split at hf
  · split at hf
    · rename_i ts hts
      cases hf
      cases hv with
      | tup _ xs hn hvs =>
        obtain ⟨h1, h2⟩ := freezeCells_ok (fun v u x hf hv => freezeAgg_ok R hI hO hf hv β') hts hn hvs
        exact .tup _ _ h1 h2
    · cases hf
  · exact freezeAgg_ok R hI hO hf hv β'

/-- Lent: all blocks that are there are immutable meanwhile. -/
theorem lendLeaf_ok (R : Rel P w0 I0 β I h w) {v u : V} {x : Value} (hf : lendLeaf h v = some u) (hv : VRel β I w v x) (β' : Nat → Option BI) : VRel β' (fun b => b < w.heap.size) w u x := by
  have hI : ∀ b, I b → b < w.heap.size := fun b hb => (R.imm b hb).2
  have hO : ∀ id bi, β id = some bi → bi.blk < w.heap.size := fun id bi hb => (R.own id bi hb).2.1
  unfold lendLeaf at hf
  split at hf
  · rename_i b i j
    split at hf
    · rename_i es hh
      split at hf
      · rename_i cs hcs
        split at hf
        · rename_i ts hts
          cases hf
          obtain ⟨hi, rfl⟩ := List.getElem?_eq_some_iff.1 hcs
          cases hv with
          | ptr _ _ _ bi hb =>
            obtain ⟨bi', hb', hrel⟩ := R.live b _ hh
            rw [hb] at hb'; cases hb'
            obtain ⟨cv, ty, h1, h2, h3, h4, h5⟩ := hrel
            obtain ⟨hl, hfi⟩ := freezeList_ok hts
            refine .iptr ts j bi.blk (bi.base + i * bi.esz) cv ty (0, 0) (fun k => cv.getD (bi.base + i * bi.esz + k) Go.undef) (hO _ _ hb) h1 (fun k hk => ?_) (fun k hk => ?_)
            · obtain ⟨_, u, hu, _⟩ := h5 i k hi (by omega)
              simp [hu]
            · obtain ⟨_, u, hu, hvu⟩ := h5 i k hi (by omega)
              have := freezeT_ok R hI hO _ _ _ _ (hfi k (by omega) hk) hvu
              simpa [hu] using this
        · cases hf
      · cases hf
    · cases hf
  · cases hf
    cases hv with
    | iptr cells j blk o cs ty fr vf hI' hb hc hv' => exact .iptr _ _ blk o cs ty fr vf (hI _ hI') hb hc (fun k hk => (hv' k hk).mono hI (fun _ _ => rfl))
  · exact freezeLeaf_ok R hI hO hf hv β'

theorem lendV_ok (R : Rel P w0 I0 β I h w) {v u : V} {x : Value} (hf : lendV h v = some u) (hv : VRel β I w v x) (β' : Nat → Option BI) : VRel β' (fun b => b < w.heap.size) w u x := by
  unfold lendV at hf
  split at hf
  · split at hf
    · rename_i ts hts
      cases hf
      cases hv with
      | agg _ xs hn hvs =>
        obtain ⟨h1, h2⟩ := freezeCells_ok (fun v u x hf hv => lendLeaf_ok R hf hv β') hts hn hvs
        exact .agg _ _ h1 h2
    · cases hf
  · exact lendLeaf_ok R hf hv β'

theorem data_any {v : V} {x : Value} (hd : v.isData = true) (hv : VRel β I w v x) (β' : Nat → Option BI) : VRel β' I w v x := by
  cases hv with
  | d t x ht => exact .d t x ht
  | _ => cases hd

/-- Closed values know no names. -/
theorem closed_any {v : V} {x : Value} (hc : v.closed = true) (hv : VRel β I w v x) (β' : Nat → Option BI) : VRel β' I w v x := by
  cases hv with
  | d t x ht => exact .d t x ht
  | agg cs xs hn hvs =>
    simp only [V.closed, List.all_eq_true] at hc
    exact .agg _ _ hn (fun i hi hi' => data_any (hc _ (List.getElem_mem hi)) (hvs i hi hi') β')
  | _ => cases hc

theorem scalar_any {v : V} {x : Value} (hd : v.isScalar = true) (hv : VRel β I w v x) (β' : Nat → Option BI) (J : Nat → Prop) (w' : World) : VRel β' J w' v x := by
  cases hv with
  | d t x ht =>
    cases ht with
    | lst => cases hd
    | imap => cases hd
    | bool b => exact .d _ _ (.bool b)
    | int k n => exact .d _ _ (.int k n)
    | str s => exact .d _ _ (.str s)
    | nilp => exact .d _ _ .nilp
    | nils => exact .d _ _ .nils
    | nilm => exact .d _ _ .nilm
    | nilf => exact .d _ _ .nilf
    | nili => exact .d _ _ .nili
  | _ => cases hd

theorem flatAgg_any {v : V} {x : Value} (hd : v.flatAgg = true) (hv : VRel β I w v x) (β' : Nat → Option BI) (J : Nat → Prop) (w' : World) : VRel β' J w' v x := by
  cases hv with
  | agg cs xs hn hvs =>
    simp only [V.flatAgg, List.all_eq_true] at hd
    exact .agg _ _ hn (fun i hi hi' => scalar_any (hd _ (List.getElem_mem hi)) (hvs i hi hi') β' J w')
  | d t x ht => exact scalar_any (β := β) (I := I) (w := w) hd (.d t x ht) β' J w'
  | _ => cases hd

/-- Flat values know no memory at all. -/
theorem flat_any {v : V} {x : Value} (hd : v.flat = true) (hv : VRel β I w v x) (β' : Nat → Option BI) (J : Nat → Prop) (w' : World) : VRel β' J w' v x := by
  cases hv with
  | tup cs xs hn hvs =>
    simp only [V.flat, List.all_eq_true] at hd
    exact .tup _ _ hn (fun i hi hi' => flatAgg_any (hd _ (List.getElem_mem hi)) (hvs i hi hi') β' J w')
  | agg cs xs hn hvs => exact flatAgg_any (β := β) (I := I) (w := w) (v := .agg cs) hd (.agg cs xs hn hvs) β' J w'
  | d t x ht => exact flatAgg_any (β := β) (I := I) (w := w) (v := .d t) hd (.d t x ht) β' J w'
  | _ => cases hd

/-! ### Slots -/

/-- The mark that a loop over a function leaves among the deferred calls of its function. -/
def markOf (r : Nat) : Deferred := { target := .collected r, args := #[] }

/-- Marks alone, each of a block of its own that holds no call. -/
def Marks (en : Nat → Prop) (I : Nat → Prop) (w : World) (ds : List Deferred) : Prop :=
  ∃ rs : List Nat, ds = rs.map markOf ∧ rs.Nodup ∧ ∀ r ∈ rs, ¬ en r ∧ I r ∧ w.heap[r]? = some (.deferred (some []))

theorem Marks.mono {I' : Nat → Prop} {w' : World} {ds : List Deferred} (hi : ∀ b, I b → I' b) (hh : ∀ b, I b → w'.heap[b]? = w.heap[b]?) (h : Marks en I w ds) : Marks en I' w' ds := by
  obtain ⟨rs, h1, h2, h3⟩ := h
  exact ⟨rs, h1, h2, fun r hr => ⟨(h3 r hr).1, hi r (h3 r hr).2.1, (hh r (h3 r hr).2.1).trans (h3 r hr).2.2⟩⟩

structure TmRel (en : Nat → Prop) (β : Nat → Option BI) (I : Nat → Prop) (w : World) (tm : List V) (a : Act) : Prop where
  size : a.tmps.size = tm.length
  rel : ∀ (i : Nat) (h : i < tm.length) (h' : i < a.tmps.size), VRel β I w tm[i] a.tmps[i]
  defers : Marks en I w a.defers
  base : ∀ b, en b → I b

theorem TmRel.mono {β' : Nat → Option BI} {I' : Nat → Prop} {w' : World} {tm : List V} {a : Act} (m : Mono β I w β' I' w') (t : TmRel en β I w tm a) : TmRel en β' I' w' tm a :=
  ⟨t.size, fun i hi hi' => (t.rel i hi hi').mono m, t.defers.mono m.is m.heap, fun b hb => m.is b (t.base b hb)⟩

theorem TmRel.getD {tm : List V} {a : Act} (t : TmRel en β I w tm a) (k : Nat) : VRel β I w (tm.getD k .undef) (a.tmps.getD k Go.undef) := by
  by_cases hk : k < tm.length
  · have hk' : k < a.tmps.size := by rw [t.size]; exact hk
    have := t.rel k hk hk'
    simpa [hk, hk'] using this
  · have hk' : ¬ k < a.tmps.size := by rw [t.size]; exact hk
    simp [List.getD, Array.getD, hk, hk']
    exact .undef

theorem TmRel.opnd {tm : List V} {a : Act} (t : TmRel en β I w tm a) : ORel β I w (evalOpnd tm) a.eval := by
  intro x y hxy
  cases x with
  | tmp k => cases hxy; exact t.getD k
  | const v =>
    simp only [compOpnd, Option.map_eq_some_iff] at hxy
    obtain ⟨u, hu, rfl⟩ := hxy
    exact const_rel hu
  | global g => cases hxy
  | func f => cases hxy; exact .fn f [] #[] rfl (fun i hi => absurd hi (by simp))

theorem TmRel.put {tm : List V} {a : Act} {v : V} {x : Value} (t : TmRel en β I w tm a) (dst : Option Nat) (hv : VRel β I w v x) : TmRel en β I w (putSlot tm dst v) (a.put dst x) := by
  cases dst with
  | none => exact t
  | some d =>
    refine ⟨by simp [Act.put, putSlot, t.size], fun i hi hi' => ?_, t.defers, t.base⟩
    simp only [putSlot, Act.put] at hi hi' ⊢
    rw [List.getElem_set, Array.getElem_setIfInBounds (by simpa using hi')]
    split
    · exact hv
    · exact t.rel i (by simpa using hi) (by simpa using hi')

theorem wanted_eq {ops : Array Oper} {o : Oper} {g : Option (Nat × Bool)} {tm : List V} {a : Act} (t : TmRel en β I w tm a) (hg : compGuard ops o.guard = some g) : Region.wanted o (yielded ops a.tmps) = wanted g tm := by
  unfold compGuard at hg
  unfold Region.wanted
  split at hg
  · rename_i hn
    cases hg
    rw [hn]
    rfl
  · rename_i j want hn
    split at hg
    · rename_i o' ho
      split at hg
      · rename_i s hs
        cases hg
        rw [hn]
        simp only [wanted, yielded, ho, Option.bind_some, hs]
        by_cases hk : s < tm.length
        · have hk' : s < a.tmps.size := by rw [t.size]; exact hk
          have hr := t.rel s hk hk'
          rw [List.getElem?_eq_getElem hk, Array.getElem?_eq_getElem hk']
          generalize tm[s] = v at hr
          generalize a.tmps[s] = x at hr
          cases hr with
          | d tt x ht => cases ht <;> simp
          | opq x h hb =>
            cases x with
            | bool b => exact absurd rfl (hb b)
            | _ => simp
          | _ => simp [Go.undef]
        · have hk' : ¬ s < a.tmps.size := by rw [t.size]; exact hk
          simp [hk, hk']
      · cases hg
    · cases hg

end
end Go.Dv
