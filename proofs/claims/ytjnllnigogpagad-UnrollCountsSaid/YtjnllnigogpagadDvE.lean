/- Each operation of the D machine is what the model's operation does: slices, appends, structs, numbers. No condition. -/
import Derived.Test.YtjnllnigogpagadDvD
import Derived.Laws.StructEq
import Derived.Laws.Unary
namespace Go.Dv

section
variable {P : Program} {w0 : World} {I0 : Nat → Prop} {β : Nat → Option BI} {I : Nat → Prop} {w : World} {h : Heap} {fr : Nat}

/-- The elements 'xs' stand for the cells 'l', one behind the other. -/
def ERel (β : Nat → Option BI) (I : Nat → Prop) (w : World) (esz : Nat) (xs : List (List V)) (l : List Value) : Prop :=
  l.length = xs.length * esz ∧ (∀ (i : Nat) (hi : i < xs.length), (xs[i]).length = esz) ∧
    ∀ (i j : Nat) (hi : i < xs.length) (hj : j < (xs[i]).length), ((xs[i])[j]).one = true ∧ ∃ u, l[i * esz + j]? = some u ∧ VRel β I w (xs[i])[j] u

theorem ERel.mono {β β' : Nat → Option BI} {I I' : Nat → Prop} {w w' : World} (m : Mono β I w β' I' w') {esz : Nat} {xs : List (List V)} {l : List Value} (e : ERel β I w esz xs l) :
    ERel β' I' w' esz xs l :=
  ⟨e.1, e.2.1, fun i j hi hj => let ⟨ho, u, hu, hv⟩ := e.2.2 i j hi hj; ⟨ho, u, hu, hv.mono m⟩⟩

theorem div_mod_of {i j esz : Nat} (hj : j < esz) : (i * esz + j) / esz = i ∧ (i * esz + j) % esz = j := by
  have h0 : 0 < esz := by omega
  constructor
  · rw [Nat.add_comm, Nat.add_mul_div_right _ _ h0, Nat.div_eq_of_lt hj, Nat.zero_add]
  · rw [Nat.add_comm, Nat.add_mul_mod_self_right, Nat.mod_eq_of_lt hj]

theorem lt_mul_of {i j n esz : Nat} (hi : i < n) (hj : j < esz) : i * esz + j < n * esz := by
  have : (i + 1) * esz ≤ n * esz := Nat.mul_le_mul_right _ hi
  rw [Nat.add_mul, Nat.one_mul] at this; omega

/-- The elements as a list of cells, if each cell is known. -/
theorem ERel.of {esz : Nat} {xs : List (List V)} (hsz : ∀ (i : Nat) (hi : i < xs.length), (xs[i]).length = esz) {cv : Array Value} {o : Nat}
    (hc : ∀ (i j : Nat) (hi : i < xs.length) (hj : j < (xs[i]).length), ((xs[i])[j]).one = true ∧ ∃ u, cv[o + (i * esz + j)]? = some u ∧ VRel β I w (xs[i])[j] u) :
    ∃ l : List Value, ERel β I w esz xs l ∧ ∀ (k : Nat) (hk : k < l.length), cv[o + k]? = some l[k] := by
  obtain ⟨l, hl, hp⟩ := list_of (p := fun k u => cv[o + k]? = some u) (xs.length * esz) (fun k hk => by
    have h0 : 0 < esz := by
      rcases Nat.eq_zero_or_pos esz with e | e
      · subst e; simp at hk
      · exact e
    have h1 : k / esz < xs.length := Nat.div_lt_of_lt_mul (by rw [Nat.mul_comm]; exact hk)
    have h2 : k % esz < (xs[k / esz]).length := by rw [hsz _ h1]; exact Nat.mod_lt _ h0
    obtain ⟨_, u, hu, _⟩ := hc _ _ h1 h2
    refine ⟨u, ?_⟩
    rw [← hu]; congr 2
    rw [Nat.mul_comm]; exact (Nat.div_add_mod k esz).symm)
  refine ⟨l, ⟨hl, hsz, fun i j hi hj => ?_⟩, hp⟩
  obtain ⟨ho, u, hu, hv⟩ := hc i j hi hj
  have hk : i * esz + j < l.length := by rw [hl]; exact lt_mul_of hi (by rw [← hsz i hi]; exact hj)
  have := hp _ hk
  rw [hu] at this
  exact ⟨ho, u, by rw [List.getElem?_eq_getElem hk]; exact this.symm, hv⟩

theorem addr_eta {a : Addr} (hs : a.spot = none) : a = ⟨a.block, a.off, none⟩ := by cases a; simp_all

/-- The elements of a slice, as the model reads them. -/
theorem sl_cells {x : V} {xv : Value} {esz : Nat} {xs : List (List V)} (R : Rel P w0 I0 β I h w) (hx : VRel β I w x xv) (he : slElems h esz x = some xs) :
    ∃ sa cap, xv = .slice sa xs.length cap ∧ ∃ l, ERel β I w esz xs l ∧ ∀ w' : World, w'.heap = w.heap → (Builtin.firstCells esz xs.length xv).run P w' = .ok l.toArray w' := by
  cases hx with
  | d t _ ht =>
    cases ht with
    | nils =>
      simp only [slElems, Option.some.injEq] at he
      subst he
      exact ⟨none, 0, rfl, [], ⟨by simp, fun i hi => absurd hi (by simp), fun i j hi => absurd hi (by simp)⟩, fun w' _ => by simp [Builtin.firstCells]⟩
    | lst es a len cap z cs ty fr' vf hlen hs hI hb hcap hsz hc hv =>
      simp only [slElems] at he
      split at he
      · rename_i hz
        cases he
        subst hz
        subst hlen
        obtain ⟨l, hl, hp⟩ := ERel.of (β := β) (I := I) (w := w) (esz := z) (xs := es.map fun e => e.map V.d) (fun i hi => by simpa using hsz i (by simpa using hi)) (cv := cs) (o := a.off) (fun i j hi hj => by
          have hi' : i < es.length := by simpa using hi
          have hj' : j < (es[i]).length := by simpa using hj
          refine ⟨by simp [V.one], vf i j, ?_, ?_⟩
          · rw [← Nat.add_assoc]; exact hc i j hi' (by rw [← hsz i hi']; exact hj')
          · simp only [List.getElem_map]; exact .d _ _ (hv i j hi' hj'))
        refine ⟨some a, cap, by simp, l, hl, fun w' hw' => ?_⟩
        have hll : l.length = (es.map fun e => e.map V.d).length * z := hl.1
        simp only [Builtin.firstCells]
        rw [addr_eta hs]
        exact run_cells (P := P) (by rw [hw']; exact hb) hll hp
      · cases he
    | bool => cases he
    | int => cases he
    | str => cases he
    | nilp => cases he
    | nilm => cases he
    | nilf => cases he
    | nili => cases he
    | imap => cases he
  | sl b off len z cap bi a hb hz hblk hs ho hl hr =>
    simp only [slElems] at he
    cases hh : h b with
    | none => rw [hh] at he; cases he
    | some blk =>
      cases blk with
      | map kvs => rw [hh] at he; cases he
      | loop => rw [hh] at he; cases he
      | iter => rw [hh] at he; cases he
      | row es =>
        rw [hh] at he
        simp only at he
        split at he
        · rename_i hc
          obtain ⟨rfl, hle⟩ := hc
          cases he
          obtain ⟨bi', hb', hrel⟩ := R.live b _ hh
          rw [hb] at hb'; cases hb'
          obtain ⟨cv, ty, h1, h2, h3, h4, h5⟩ := hrel
          have hlen : ((es.drop off).take len).length = len := by simp; omega
          by_cases hz0 : cap = 0
          · have hl0 : len = 0 := by omega
            subst hl0
            refine ⟨some a, cap, by simp, [], ⟨by simp, fun i hi => absurd hi (by simp), fun i j hi => absurd hi (by simp)⟩, fun w' hw' => ?_⟩
            simp [Builtin.firstCells, loadCells, loadCellsFrom]
          · have hoff := ho hz0
            obtain ⟨l, hle', hp⟩ := ERel.of (β := β) (I := I) (w := w) (esz := z) (xs := (es.drop off).take len) (fun i hi => by
                simp only [List.getElem_take, List.getElem_drop]; rw [← hz]; exact h4 _ (by simp at hi; omega)) (cv := cv) (o := a.off) (fun i j hi hj => by
              simp only [List.getElem_take, List.getElem_drop] at hj ⊢
              have hi' : off + i < es.length := by simp at hi; omega
              obtain ⟨h6, u, hu, hv⟩ := h5 (off + i) j hi' hj
              refine ⟨h6, u, ?_, hv⟩
              rw [← hu]; congr 1
              rw [hoff, hz, Nat.add_mul]; omega)
            refine ⟨some a, cap, by rw [hlen], l, hle', fun w' hw' => ?_⟩
            simp only [Builtin.firstCells]
            rw [addr_eta hs]
            exact run_cells (P := P) (by rw [hw', hblk]; exact h1) hle'.1 hp
        · cases he
  | undef => cases he
  | ptr => cases he
  | iptr => cases he
  | map => cases he
  | fn => cases he
  | agg => cases he
  | tup => cases he
  | yield => cases he
  | it => cases he
  | emp => cases he
  | opq => cases he

theorem elem_of {t e : TypeId} (ht : elemTy P t = some e) : P.underlying t = some (.slice e) := by
  unfold elemTy at ht
  split at ht
  · cases ht; assumption
  · cases ht

theorem info_of {e : TypeId} {esz bytes : Nat} {z : V} (h1 : szTy P e = some esz) (h2 : bytesTy P e = some bytes) (h3 : zeroTy P e = some z) :
    ∃ i x, P.info? e = some i ∧ i.size = esz ∧ i.bytes = bytes ∧ i.zero = some x ∧ ∀ (β : Nat → Option BI) (I : Nat → Prop) (w : World), VRel β I w z x := by
  unfold szTy at h1
  unfold bytesTy at h2
  unfold zeroTy at h3
  cases hi : P.info? e with
  | none => simp [hi] at h1
  | some i =>
    rw [hi] at h1 h2 h3
    simp only [Option.map_some, Option.some.injEq] at h1 h2
    cases hz : i.zero with
    | none => simp [hz] at h3
    | some x =>
      simp only [hz] at h3
      exact ⟨i, x, rfl, h1, h2, hz, fun β I w => const_rel h3⟩

theorem append_room_run {t u e e' : TypeId} {ty : TypeId} {i : TypeInfo} (ht : P.underlying t = some (.slice e)) (hu : P.underlying u = some (.slice e')) (hi : P.info? e = some i)
    {base : Option Addr} {sLen sCap n c : Nat} {xa : Option Addr} {l : List Value} (hroom : sLen + n ≤ sCap) (hf : (Builtin.firstCells i.size n (.slice xa n c)).run P w = .ok l.toArray w) :
    (Builtin.append_ #[t, u] ty #[.slice base sLen sCap, .slice xa n c]).run P w =
      match base with
      | some a => ((storeCells (a.add (sLen * i.size)) l).run P w).andThen fun _ w' => .ok (.slice base (sLen + n) sCap) w'
      | none => .ok (.slice base (sLen + n) sCap) w := by
  cases base <;> simp [Builtin.append_, run_underlying ht, run_underlying hu, sizeOf, typeInfo, hi, Builtin.lenOf, hroom, hf]

theorem append_grow_run {t u e e' : TypeId} {ty : TypeId} {i : TypeInfo} {z : Value} (ht : P.underlying t = some (.slice e)) (hu : P.underlying u = some (.slice e')) (hi : P.info? e = some i) (hz : i.zero = some z)
    {base xa : Option Addr} {sLen sCap n c : Nat} {l l0 : List Value} (hg : sCap < sLen + n) (hf : (Builtin.firstCells i.size n (.slice xa n c)).run P w.drew = .ok l.toArray w.drew)
    (hf0 : (Builtin.firstCells i.size sLen (.slice base sLen sCap)).run P w.drew = .ok l0.toArray w.drew) (hb : (sLen + n) * i.bytes ≤ 140737488355328) (hpos : 0 < i.bytes) :
    ∃ cap, sLen + n ≤ cap ∧ (Builtin.append_ #[t, u] ty #[.slice base sLen sCap, .slice xa n c]).run P w =
      .ok (.slice (some ⟨w.heap.size, 0, none⟩) (sLen + n) cap) (w.drew.alloc (.cells (l0.toArray ++ l.toArray ++ Builtin.zeroCells z.cells (cap - (sLen + n))) e)) := by
  have hn : ¬ (sLen + n ≤ sCap) := by omega
  have hle : sLen + n ≤ (sLen + n) * i.bytes := Nat.le_mul_of_pos_right _ hpos
  have h63' : ¬ (9223372036854775807 < ((sLen : Int) + (n : Int))) := by omega
  have h48 := growslice_fits hg hb
  have h48' : ¬ (281474976710656 < Builtin.nextslicecap (sLen + n) sCap * i.bytes) := by omega
  refine ⟨grownCap w (sLen + n) sCap e, grownCap_ge w _ _ _, ?_⟩
  simp [Builtin.append_, run_underlying ht, run_underlying hu, sizeOf, typeInfo, zeroValue, hi, hz, Builtin.lenOf, hn, h63', h48', Question.forced, hf, hf0, newRow, grownCap]
  congr 2
  apply Array.ext'
  simp [List.append_assoc]

/-- Behind an append that made new memory. -/
theorem grown_rel {h : Heap} {esz cap : Nat} {es xs : List (List V)} {l0 l : List Value} {e : TypeId} {z : V} {zx : Value} (R : Rel P w0 I0 β I h w) (hf : β fr = none)
    (e0 : ERel β I w esz es l0) (e1 : ERel β I w esz xs l) (hcap : es.length + xs.length ≤ cap) (hz : VRel β I w z zx) (hzl : z.cells.length = esz) :
    ∃ β', Mono β I w β' I (w.drew.alloc (.cells (l0.toArray ++ l.toArray ++ Builtin.zeroCells zx.cells (cap - (es.length + xs.length))) e)) ∧ (∀ id, id ≠ fr → β' id = β id) ∧
      Rel P w0 I0 β' I (h.put fr (some (.row (es ++ xs)))) (w.drew.alloc (.cells (l0.toArray ++ l.toArray ++ Builtin.zeroCells zx.cells (cap - (es.length + xs.length))) e)) ∧
      VRel β' I (w.drew.alloc (.cells (l0.toArray ++ l.toArray ++ Builtin.zeroCells zx.cells (cap - (es.length + xs.length))) e)) (.sl fr 0 (es.length + xs.length) esz)
        (.slice (some ⟨w.heap.size, 0, none⟩) (es.length + xs.length) cap) := by
  have hzx : zx.cells.size = esz := by have := hz.cellsRel.1; simp only [Array.length_toList] at this; omega
  have hs : (es.length + xs.length + (cap - (es.length + xs.length))) * esz = cap * esz := by congr 1; omega
  obtain ⟨β', m, hid, hbi, R'⟩ := R.make (w' := w.drew.alloc (.cells (l0.toArray ++ l.toArray ++ Builtin.zeroCells zx.cells (cap - (es.length + xs.length))) e)) hf
    (.cells (l0.toArray ++ l.toArray ++ Builtin.zeroCells zx.cells (cap - (es.length + xs.length))) e) rfl rfl rfl rfl ⟨w.heap.size, 0, esz, cap⟩ rfl (.row (es ++ xs)) (fun β' m => by
      refine row_new (w := w) (heap_alloc_new w.drew _) ?_ (by simpa using hcap) (fun i hi => ?_) (fun i j hi hj => ?_)
      · simp only [Array.size_append, List.size_toArray, size_zeroCells, hzx, e0.1, e1.1]
        rw [Nat.add_mul, Nat.add_mul] at hs; omega
      · rw [List.getElem_append]
        split
        · exact e0.2.1 i _
        · exact e1.2.1 _ _
      · have h1 : l0.length = es.length * esz := e0.1
        have h2 : l.length = xs.length * esz := e1.1
        by_cases hlt : i < es.length
        · have hel : (es ++ xs)[i] = es[i] := List.getElem_append_left hlt
          have hj' : j < (es[i]).length := by rw [← hel]; exact hj
          obtain ⟨ho, u, hu, hv⟩ := e0.2.2 i j hlt hj'
          have hge : ((es ++ xs)[i])[j] = (es[i])[j] := by simp only [hel]
          rw [hge]
          refine ⟨ho, u, ?_, hv.mono m⟩
          have hlt2 : i * esz + j < l0.length := by rw [h1]; exact lt_mul_of hlt (by rw [← e0.2.1 i hlt]; exact hj')
          rw [Array.getElem?_append_left (by simp; omega), Array.getElem?_append_left (by simpa using hlt2)]
          simpa using hu
        · have hi2 : i - es.length < xs.length := by simp at hi; omega
          have hel : (es ++ xs)[i] = xs[i - es.length] := List.getElem_append_right (by omega)
          have hj' : j < (xs[i - es.length]).length := by rw [← hel]; exact hj
          obtain ⟨ho, u, hu, hv⟩ := e1.2.2 _ j hi2 hj'
          have hge : ((es ++ xs)[i])[j] = (xs[i - es.length])[j] := by simp only [hel]
          rw [hge]
          refine ⟨ho, u, ?_, hv.mono m⟩
          have hlt2 : (i - es.length) * esz + j < l.length := by rw [h2]; exact lt_mul_of hi2 (by rw [← e1.2.1 _ hi2]; exact hj')
          have hsum : i * esz + j = l0.length + ((i - es.length) * esz + j) := by
            have : i * esz = es.length * esz + (i - es.length) * esz := by rw [← Nat.add_mul]; congr 1; omega
            omega
          rw [hsum, Array.getElem?_append_left (by simp; omega), Array.getElem?_append_right (by simp)]
          simpa using hu)
  refine ⟨β', m, hid, R', ?_⟩
  exact .sl fr 0 _ esz cap _ ⟨w.heap.size, 0, none⟩ hbi rfl rfl rfl (fun _ => by simp) hcap (by simp)

theorem sim_append {t u e e' ty : TypeId} {esz bytes : Nat} {z s x v : V} {sv xv : Value} {h' : Heap} (ht : elemTy P t = some e) (hu : elemTy P u = some e') (h1 : szTy P e = some esz)
    (h2 : bytesTy P e = some bytes) (h3 : zeroTy P e = some z) (hzl : z.cells.length = esz) (hpos : 0 < bytes) (R : Rel P w0 I0 β I h w) (hf : β fr = none) (hs : VRel β I w s sv) (hx : VRel β I w x xv)
    (hev : appendV esz bytes h s x fr = some (v, h')) : Sim P w0 I0 β I w h' fr v (do pure (.value (← Builtin.append_ #[t, u] ty #[sv, xv]))) := by
  obtain ⟨i, zx, hi, rfl, rfl, hiz, hzr⟩ := info_of h1 h2 h3
  have ht' := elem_of ht
  have hu' := elem_of hu
  unfold appendV at hev
  cases hxs : slElems h i.size x with
  | none => rw [hxs] at hev; cases hev
  | some xs =>
    rw [hxs] at hev
    simp only at hev
    obtain ⟨xa, xc, rfl, l, e1, hfx⟩ := sl_cells (P := P) R hx hxs
    cases hs with
    | d t0 _ htr =>
      cases htr with
      | nils =>
        simp only at hev
        split at hev
        · rename_i hn
          cases hev
          have hn' : xs.length = 0 := hn
          have hl : l = [] := by have := e1.1; rw [hn'] at this; simpa using this
          have hr := append_room_run (ty := ty) (w := w) (base := none) (sLen := 0) (sCap := 0) ht' hu' hi (by omega : 0 + xs.length ≤ 0) (hfx w rfl)
          exact .keep (r := .slice none 0 0) (by rw [hn'] at hr ⊢; simp [hr]) R (.d _ _ .nils)
        · split at hev
          · rename_i hn hb
            cases hev
            obtain ⟨cap, hcap, hr⟩ := append_grow_run (ty := ty) (w := w) (base := none) (sLen := 0) (sCap := 0) (l0 := []) ht' hu' hi hiz (by omega : 0 < 0 + xs.length) (hfx w.drew rfl)
              (by simp [Builtin.firstCells]) (by simpa using hb) hpos
            obtain ⟨β', m, hid, R', hv⟩ := grown_rel (e := e) (es := []) (l0 := []) (z := z) (zx := zx) (cap := cap) R hf ⟨by simp, fun i hi => absurd hi (by simp), fun i j hi => absurd hi (by simp)⟩ e1 (by simpa using hcap) (hzr β I w) hzl
            simp only [List.length_nil, List.nil_append] at R' hv m
            refine ⟨_, _, β', .inl ?_, m, hid, R', by simpa using hv⟩
            simp [hr]
          · cases hev
      | bool => cases hev
      | int => cases hev
      | str => cases hev
      | nilp => cases hev
      | nilm => cases hev
      | nilf => cases hev
      | nili => cases hev
      | lst => cases hev
      | imap => cases hev
    | sl b off len zz cap bi a hb hz hblk hs ho hl hr =>
      simp only at hev
      cases hh : h b with
      | none => rw [hh] at hev; cases hev
      | some blk =>
        cases blk with
        | map kvs => rw [hh] at hev; cases hev
        | loop => rw [hh] at hev; cases hev
        | iter => rw [hh] at hev; cases hev
        | row es =>
          rw [hh] at hev
          simp only at hev
          split at hev
          · rename_i hc
            obtain ⟨rfl, hle, hbd⟩ := hc
            cases hev
            have hse : slElems h i.size (.sl b off len i.size) = some ((es.drop off).take len) := by simp [slElems, hh, hle]
            have hlen : ((es.drop off).take len).length = len := by simp; omega
            obtain ⟨_, _, heq, l0, e0, hf0⟩ := sl_cells (P := P) R (.sl b off len i.size cap bi a hb hz hblk hs ho hl hr) hse
            rw [hlen] at hf0
            by_cases hroom : len + xs.length ≤ cap
            · -- in place
              obtain ⟨bi', hb', hrel⟩ := R.live b _ hh
              rw [hb] at hb'; cases hb'
              obtain ⟨cv, ty', g1, g2, g3, g4, g5⟩ := hrel
              have hbo := R.own b bi hb
              by_cases hc0 : cap = 0
              · have hl0 : len = 0 := by omega
                have hx0 : xs.length = 0 := by omega
                have hxs0 : xs = [] := List.length_eq_zero_iff.1 hx0
                subst hxs0
                subst hl0
                have hll : l = [] := by have := e1.1; simpa using this
                subst hll
                have hw := R.write (w' := w) (to := fr) (bi' := ⟨bi.blk, bi.base, bi.esz, 0⟩) hb (by simp [hh]) (.inr hf) rfl rfl (fun _ _ => rfl) rfl rfl rfl
                  (.row []) (fun β' m => ⟨cv, ty', g1, by simp; omega, by simp, fun i hi => absurd hi (by simp), fun i j hi => absurd hi (by simp)⟩)
                obtain ⟨β', m, hid, hbi, R'⟩ := hw
                have hr := append_room_run (ty := ty) (w := w) (base := some a) (sLen := 0) (sCap := cap) ht' hu' hi hroom (hfx w rfl)
                refine ⟨.slice (some a) 0 cap, w, β', .inl ?_, m, hid, by simpa using R', ?_⟩
                · simp only [List.length_nil] at hr ⊢
                  simp [hr, storeCells]
                · exact .sl fr 0 0 i.size cap _ a hbi hz hblk hs (fun hne => absurd hc0 hne) (by omega) (by simp [hc0])
              · have hoff := ho hc0
                have hadd : a.add (len * i.size) = ⟨bi.blk, bi.base + off * bi.esz + len * i.size, none⟩ := by rw [addr_eta hs, addr_add, hblk, hoff]
                have hroom2 : (off + (len + xs.length)) * i.size ≤ bi.room * i.size := Nat.mul_le_mul_right _ (by omega)
                rw [Nat.add_mul, Nat.add_mul] at hroom2
                rw [hz] at g2
                obtain ⟨cs', hrun, hsz, hget⟩ := storeCells_at (P := P) bi.blk ty' l (bi.base + off * bi.esz + len * i.size) 0 cv w g1 (by rw [e1.1, hz]; omega)
                  (fun y hy => by
                    obtain ⟨k, hk, rfl⟩ := List.getElem_of_mem hy
                    have h0 : 0 < i.size := by
                      rcases Nat.eq_zero_or_pos i.size with e | e
                      · rw [e1.1, e] at hk; simp at hk
                      · exact e
                    have k1 : k / i.size < xs.length := Nat.div_lt_of_lt_mul (by rw [Nat.mul_comm, ← e1.1]; exact hk)
                    have k2 : k % i.size < (xs[k / i.size]).length := by rw [e1.2.1 _ k1]; exact Nat.mod_lt _ h0
                    obtain ⟨ho1, u, hu1, hv1⟩ := e1.2.2 _ _ k1 k2
                    have hke : k / i.size * i.size + k % i.size = k := by rw [Nat.mul_comm]; exact Nat.div_add_mod k i.size
                    rw [hke, List.getElem?_eq_getElem hk] at hu1
                    cases hu1
                    exact hv1.oneCell ho1)
                have hw := R.write (w' := w.setRow bi.blk cs') (to := fr) (bi' := ⟨bi.blk, bi.base + off * bi.esz, bi.esz, bi.room - off⟩) hb (by simp [hh]) (.inr hf) rfl (by simp)
                  (fun k hk => setRow_old _ _ _ _ hk) rfl rfl rfl (.row ((es.drop off).take len ++ xs)) (fun β' m => by
                    refine ⟨cs', ty', setRow_heap w bi.blk cv cs' ty' _ g1, ?_, by simp; omega, fun k hk => ?_, fun k j hk hj => ?_⟩
                    · rw [hsz]
                      simp only [hz]
                      have : off * i.size + (bi.room - off) * i.size = bi.room * i.size := by rw [← Nat.add_mul]; congr 1; omega
                      omega
                    · simp only [hz]
                      rw [List.getElem_append]
                      split
                      · exact e0.2.1 k _
                      · exact e1.2.1 _ _
                    · have h1l : l.length = xs.length * i.size := e1.1
                      simp only [hz]
                      by_cases hlt : k < len
                      · have hlt' : k < ((es.drop off).take len).length := by rw [hlen]; exact hlt
                        have hel : ((es.drop off).take len ++ xs)[k] = ((es.drop off).take len)[k] := List.getElem_append_left hlt'
                        have hel2 : ((es.drop off).take len)[k] = es[off + k]'(by omega) := by simp
                        have hel3 : ((es.drop off).take len ++ xs)[k] = es[off + k]'(by omega) := hel.trans hel2
                        have hj' : j < (es[off + k]'(by omega)).length := by rw [← hel3]; exact hj
                        have hge : (((es.drop off).take len ++ xs)[k])[j] = (es[off + k]'(by omega))[j] := by simp only [hel3]
                        rw [hge]
                        obtain ⟨ho5, u5, hu5, hv5⟩ := g5 (off + k) j (by omega) hj'
                        have hjz : j < i.size := by rw [← hz, ← g4 (off + k) (by omega)]; exact hj'
                        refine ⟨ho5, u5, ?_, hv5.mono m⟩
                        rw [hget, if_neg]
                        · rw [← hu5, hz]; congr 1; rw [Nat.add_mul]; omega
                        · have := lt_mul_of hlt hjz
                          rw [hz]; omega
                      · have hk2 : k - len < xs.length := by simp at hk; omega
                        have hel : ((es.drop off).take len ++ xs)[k] = xs[k - len] := by
                          rw [List.getElem_append_right (by omega)]; congr 1; omega
                        have hj' : j < (xs[k - len]).length := by rw [← hel]; exact hj
                        have hge : (((es.drop off).take len ++ xs)[k])[j] = (xs[k - len])[j] := by simp only [hel]
                        rw [hge]
                        obtain ⟨ho5, u5, hu5, hv5⟩ := e1.2.2 _ j hk2 hj'
                        have hjz : j < i.size := by rw [← e1.2.1 _ hk2]; exact hj'
                        refine ⟨ho5, u5, ?_, hv5.mono m⟩
                        have hlt2 := lt_mul_of hk2 hjz
                        have hke : k * i.size = len * i.size + (k - len) * i.size := by rw [← Nat.add_mul]; congr 1; omega
                        rw [hget, if_pos (by rw [h1l, hz]; omega), ← hu5]
                        congr 1
                        rw [hz]; omega)
                obtain ⟨β', m, hid, hbi, R'⟩ := hw
                have hr2 := append_room_run (ty := ty) (w := w) (base := some a) (sLen := len) (sCap := cap) ht' hu' hi hroom (hfx w rfl)
                refine ⟨.slice (some a) (len + xs.length) cap, w.setRow bi.blk cs', β', .inl ?_, m, hid, R', ?_⟩
                · simp [hr2, hadd, hrun]
                · exact .sl fr 0 _ i.size cap _ a hbi hz hblk hs (fun _ => by simpa using hoff) hroom (by simp; omega)
            · -- grown
              obtain ⟨cap', hcap', hr2⟩ := append_grow_run (ty := ty) (w := w) (base := some a) (sLen := len) (sCap := cap) (l0 := l0) ht' hu' hi hiz (by omega) (hfx w.drew rfl)
                (hf0 w.drew rfl) hbd hpos
              obtain ⟨β', m, hid, R', hv⟩ := grown_rel (e := e) (es := (es.drop off).take len) (l0 := l0) (z := z) (zx := zx) (cap := cap') (R.drop b) hf e0 e1 (by rw [hlen]; exact hcap') (hzr β I w) hzl
              rw [hlen] at R' hv m
              exact ⟨_, _, β', .inl (by simp [hr2]), m, hid, R', hv⟩
          · cases hev
    | undef => cases hev
    | ptr => cases hev
    | iptr => cases hev
    | map => cases hev
    | fn => cases hev
    | agg => cases hev
    | tup => cases hev
    | yield => cases hev
    | it => cases hev
    | emp => cases hev
    | opq => cases hev

end
end Go.Dv
