/- Each operation of the D machine is what the model's operation does: loads, stores, what is made. No condition. -/
import Derived.Test.YtjnllnigogpagadDvC
import Derived.Laws.Append
import Derived.Laws.AppendOwn
import Derived.Laws.Slices
import Derived.Laws.Entries
namespace Go.Dv

/-- The model's step yields what stands for 'v', in a world that stands for 'h'. 'fr': the one name that may be new. -/
def Sim (P : Program) (w0 : World) (I0 : Nat → Prop) (β : Nat → Option BI) (I : Nat → Prop) (w : World) (h' : Heap) (fr : Nat) (v : V) (s : Sem Next) : Prop :=
  ∃ r w' β', (s.run P w = .ok (.value r) w' ∨ (s.run P w = .ok .skip w' ∧ r = undef)) ∧ Mono β I w β' I w' ∧ (∀ id, id ≠ fr → β' id = β id) ∧
    Rel P w0 I0 β' I h' w' ∧ VRel β' I w' v r

section
variable {P : Program} {w0 : World} {I0 : Nat → Prop} {β : Nat → Option BI} {I : Nat → Prop} {w : World} {h : Heap} {fr : Nat}

theorem Sim.keep {s : Sem Next} {v : V} {r : Value} (hs : s.run P w = .ok (.value r) w) (R : Rel P w0 I0 β I h w) (hv : VRel β I w v r) : Sim P w0 I0 β I w h fr v s :=
  ⟨r, w, β, .inl hs, .refl _ _ _, fun _ _ => rfl, R, hv⟩

theorem list_of {α : Type} {p : Nat → α → Prop} : ∀ (n : Nat), (∀ k, k < n → ∃ u, p k u) → ∃ l : List α, l.length = n ∧ ∀ (k : Nat) (hk : k < l.length), p k l[k]
  | 0, _ => ⟨[], rfl, fun k hk => absurd hk (by simp)⟩
  | n + 1, hh => by
    obtain ⟨l, hl, hp⟩ := list_of n (fun k hk => hh k (by omega))
    obtain ⟨u, hu⟩ := hh n (by omega)
    refine ⟨l ++ [u], by simp [hl], fun k hk => ?_⟩
    by_cases e : k < l.length
    · rw [List.getElem_append_left e]; exact hp k e
    · have : k = n := by simp at hk; omega
      subst this
      rw [List.getElem_append_right (by omega)]
      simpa [hl] using hu

theorem keepH_some {h h' : Heap} {v : Option V} {u : V} (e : keepH h v = some (u, h')) : v = some u ∧ h' = h := by
  unfold keepH at e
  split at e
  · cases e; exact ⟨rfl, rfl⟩
  · cases e

theorem addr_add (b o k : Nat) : (⟨b, o, none⟩ : Addr).add k = ⟨b, o + k, none⟩ := by
  unfold Addr.add; split <;> simp_all

/-- What a pointer points to. -/
theorem ptr_cells {p : V} {x : Value} {cs : List V} {j : Nat} (R : Rel P w0 I0 β I h w) (hp : VRel β I w p x) (hc : ptrCells h p = some (cs, j)) :
    ∃ blk off cv ty fr', x = .pointer (some ⟨blk, off, none⟩) ∧ w.heap[blk]? = some (.cells cv ty fr') ∧
      ∀ k (hk : k < cs.length), j ≤ k → ∃ u, cv[off + (k - j)]? = some u ∧ VRel β I w cs[k] u ∧ (cs[k]).one = true := by
  cases hp with
  | ptr b i j' bi hb =>
    simp only [ptrCells] at hc
    cases hh : h b with
    | none => rw [hh] at hc; cases hc
    | some blk =>
      cases blk with
      | map kvs => rw [hh] at hc; cases hc
      | loop => rw [hh] at hc; cases hc
      | iter => rw [hh] at hc; cases hc
      | row es =>
        rw [hh] at hc
        simp only at hc
        cases he : es[i]? with
        | none => rw [he] at hc; cases hc
        | some c =>
          rw [he] at hc
          simp only [Option.some.injEq, Prod.mk.injEq] at hc
          obtain ⟨rfl, rfl⟩ := hc
          obtain ⟨bi', hb', hr⟩ := R.live b _ hh
          rw [hb] at hb'; cases hb'
          obtain ⟨cv, ty, h1, h2, h3, h4, h5⟩ := hr
          obtain ⟨hi, rfl⟩ := List.getElem?_eq_some_iff.1 he
          refine ⟨_, _, cv, ty, (0, 0), rfl, h1, fun k hk hjk => ?_⟩
          obtain ⟨ho, u, hu, hv⟩ := h5 i k hi hk
          exact ⟨u, by rw [← hu]; congr 1; omega, hv, ho⟩
  | iptr cells j' blk o cv ty fr' vf hI hb hcc hv =>
    simp only [ptrCells, Option.some.injEq, Prod.mk.injEq] at hc
    obtain ⟨rfl, rfl⟩ := hc
    refine ⟨_, _, cv, ty, fr', rfl, hb, fun k hk hjk => ?_⟩
    have hk' : k < cells.length := by simpa using hk
    refine ⟨vf k, by rw [← hcc k hk']; congr 1; omega, ?_, by simp [V.one]⟩
    simp only [List.getElem_map]
    exact .d _ _ (hv k hk')
  | undef => cases hc
  | d t x h => cases hc
  | sl => cases hc
  | map => cases hc
  | fn => cases hc
  | agg => cases hc
  | tup => cases hc
  | yield => cases hc
  | it => cases hc
  | emp => cases hc
  | opq => cases hc

theorem isAgg_run {t : TypeId} {b : Bool} (ht : aggTy P t = some b) : (isAgg t).run P w = .ok b w := by
  unfold aggTy at ht
  cases hu : P.underlying t with
  | none => rw [hu] at ht; cases ht
  | some d =>
    rw [hu] at ht
    unfold isAgg
    rw [Sem.run_bind, run_underlying hu w]
    cases d <;> simp_all

theorem sizeOf_run {t : TypeId} {n : Nat} (ht : szTy P t = some n) : (sizeOf t).run P w = .ok n w := by
  unfold szTy at ht
  cases hi : P.info? t with
  | none => simp [hi] at ht
  | some i => simp only [hi, Option.map_some, Option.some.injEq] at ht; simp [sizeOf, typeInfo, hi, ht]

/-- The cells behind a pointer, read one by one. -/
theorem run_cells {blk off : Nat} {cv : Array Value} {ty : TypeId} {fr' : Nat × Nat} {n : Nat} {l : List Value} (hh : w.heap[blk]? = some (.cells cv ty fr')) (hl : l.length = n)
    (hc : ∀ (k : Nat) (hk : k < l.length), cv[off + k]? = some l[k]) : (loadCells ⟨blk, off, none⟩ n).run P w = .ok l.toArray w := by
  subst hl
  refine run_loadCells_list (P := P) w ⟨blk, off, none⟩ l (fun j v hv => ?_)
  obtain ⟨hj, rfl⟩ := List.getElem?_eq_some_iff.1 hv
  rw [addr_add, cell_of_row w blk (off + j) cv ty fr' hh]
  exact hc j hj

theorem load_ok {t : TypeId} {n : Option Nat} {p v : V} {x : Value} (ht : loadTy P t = some n) (R : Rel P w0 I0 β I h w) (hp : VRel β I w p x) (hl : loadV h n p = some v) :
    ∃ r, (Instr.loadAt t x).run P w = .ok r w ∧ VRel β I w v r := by
  unfold loadV at hl
  cases hc : ptrCells h p with
  | none => rw [hc] at hl; cases hl
  | some cj =>
    obtain ⟨cs, j⟩ := cj
    rw [hc] at hl
    obtain ⟨blk, off, cv, ty, fr', rfl, hh, hcell⟩ := ptr_cells R hp hc
    unfold loadTy at ht
    cases n with
    | none =>
      simp only at hl
      obtain ⟨hj, rfl⟩ := List.getElem?_eq_some_iff.1 hl
      obtain ⟨u, hu, hv, _⟩ := hcell j hj (Nat.le_refl _)
      have hagg : aggTy P t = some false := by
        split at ht <;> simp_all
      refine ⟨u, ?_, hv⟩
      have hcl : w.cell? ⟨blk, off, none⟩ = some u := by rw [cell_of_row w blk off cv ty fr' hh, ← hu]; congr 1; omega
      simp [Instr.loadAt, Instr.sureAddr, loadVar, isAgg_run hagg, hcl]
    | some n =>
      simp only at hl
      split at hl
      · rename_i hle
        cases hl
        have hagg : aggTy P t = some true ∧ szTy P t = some n := by
          split at ht <;> simp_all
        obtain ⟨l, hln, hlp⟩ := list_of (p := fun k u => ∃ hk : j + k < cs.length, cv[off + k]? = some u ∧ VRel β I w cs[j + k] u) n (fun k hk => by
          obtain ⟨u, hu, hv, _⟩ := hcell (j + k) (by omega) (by omega)
          exact ⟨u, by omega, by rw [← hu]; congr 1; omega, hv⟩)
        refine ⟨.agg l.toArray, ?_, .agg _ _ (by simp [hln]; omega) (fun i hi hi' => ?_)⟩
        · have hrc := run_cells (P := P) (w := w) hh hln (fun k hk => (hlp k hk).2.1)
          simp [Instr.loadAt, Instr.sureAddr, loadVar, isAgg_run hagg.1, sizeOf_run hagg.2, hrc]
        · obtain ⟨hk, _, hv⟩ := hlp i (by simpa using hi')
          simpa using hv
      · cases hl

theorem sim_load {t : TypeId} {n : Option Nat} {p v : V} {x : Value} (ht : loadTy P t = some n) (R : Rel P w0 I0 β I h w) (hp : VRel β I w p x) (hl : loadV h n p = some v) :
    Sim P w0 I0 β I w h fr v (do pure (.value (← Instr.loadAt t x))) := by
  obtain ⟨r, hr, hv⟩ := load_ok ht R hp hl
  exact .keep (by simp [hr]) R hv

/-! ### Stores -/

theorem storeCells_at (blk : Nat) (ty : TypeId) : ∀ (vs : List Value) (o i : Nat) (cur : Array Value) (w : World), w.heap[blk]? = some (.cells cur ty (0, 0)) → o + i + vs.length ≤ cur.size →
    (∀ v ∈ vs, v.oneCell' = true) →
    ∃ cs' : Array Value, (storeCells ⟨blk, o, none⟩ vs i).run P w = .ok () (w.setRow blk cs') ∧ cs'.size = cur.size ∧
      ∀ m, cs'[m]? = if o + i ≤ m ∧ m < o + i + vs.length then vs[m - (o + i)]? else cur[m]?
  | [], o, i, cur, w, hg, hl, _ => by
    refine ⟨cur, ?_, rfl, fun m => ?_⟩
    · have hlt : blk < w.heap.size := (Array.getElem?_eq_some_iff.1 hg).1
      have hv : w.heap[blk] = .cells cur ty (0, 0) := (Array.getElem?_eq_some_iff.1 hg).2
      show Result.ok () w = _
      congr 1
      unfold World.setRow
      cases w with
      | mk heap tape drawn os output =>
        congr 1
        apply Array.ext
        · simp
        · intro k h1 h2
          simp only [Array.getElem_modify]
          split
          · rename_i hk; subst hk; simp at hv; simp [hv]
          · rfl
    · rw [if_neg (by simp only [List.length_nil]; omega)]
  | v :: rest, o, i, cur, w, hg, hl, h1 => by
    have hi : o + i < cur.size := by simp at hl; omega
    have hcell : w.cell? ⟨blk, o + i, none⟩ = some cur[o + i] := by simp [World.cell?, hg, hi]
    have hfro : w.frozen? ⟨blk, o + i, none⟩ = false := by simp [World.frozen?, hg]
    have hst : (store ((⟨blk, o, none⟩ : Addr).add i) v).run P w = .ok () (w.setRow blk (cur.setIfInBounds (o + i) v)) := by
      rw [addr_add, run_store P w _ v _ (h1 v (by simp)), hcell]
      simp [hfro, setCell_eq_setRow w blk (o + i) cur ty (0, 0) v hg]
    obtain ⟨cs', hr, hs, hm⟩ := storeCells_at blk ty rest o (i + 1) (cur.setIfInBounds (o + i) v) (w.setRow blk (cur.setIfInBounds (o + i) v))
      (setRow_heap w blk cur _ ty _ hg) (by simp at hl ⊢; omega) (fun x hx => h1 x (by simp [hx]))
    refine ⟨cs', ?_, by simp [hs], fun m => ?_⟩
    · simp only [storeCells, Sem.run_bind, hst, Result.andThen_ok, hr, setRow_setRow]
    · rw [hm m]
      simp only [List.length_cons]
      by_cases e : m = o + i
      · subst e
        rw [if_neg (by omega), if_pos (by omega)]
        simp [hi]
      · by_cases e2 : o + (i + 1) ≤ m ∧ m < o + (i + 1) + rest.length
        · rw [if_pos e2, if_pos (by omega), show m - (o + i) = (m - (o + (i + 1))) + 1 by omega, List.getElem?_cons_succ]
        · rw [if_neg e2, if_neg (by omega), Array.getElem?_setIfInBounds_ne (by omega)]

theorem CRel.all_one {vs : List V} {xs : List Value} (hc : CRel β I w vs xs) (ho : vs.all V.one = true) : ∀ x ∈ xs, x.oneCell' = true := by
  intro x hx
  obtain ⟨i, hi, rfl⟩ := List.getElem_of_mem hx
  have hi' : i < vs.length := hc.1 ▸ hi
  exact (hc.2 i hi' hi).oneCell (List.all_eq_true.1 ho _ (List.getElem_mem hi'))

theorem setRow_old (w : World) (g : Nat) (cs : Array Value) (k : Nat) (hk : k ≠ g) : (w.setRow g cs).heap[k]? = w.heap[k]? := setRow_other w g k cs hk

theorem sim_store {t : TypeId} {n : Nat} {p x : V} {a y : Value} {h' : Heap} (ht : szTy P t = some n) (R : Rel P w0 I0 β I h w) (hp : VRel β I w p a) (hx : VRel β I w x y)
    (hs : storeV h n p x = some h') : Sim P w0 I0 β I w h' fr .undef (do Instr.storeAt t a y; pure .skip) := by
  cases hp with
  | ptr b i j bi hb =>
    simp only [storeV] at hs
    cases hh : h b with
    | none => rw [hh] at hs; cases hs
    | some blk =>
      cases blk with
      | map kvs => rw [hh] at hs; cases hs
      | loop => rw [hh] at hs; cases hs
      | iter => rw [hh] at hs; cases hs
      | row es =>
        rw [hh] at hs
        simp only at hs
        cases he : es[i]? with
        | none => rw [he] at hs; cases hs
        | some c =>
          rw [he] at hs
          simp only at hs
          split at hs
          · rename_i hle
            cases hs
            obtain ⟨hi, rfl⟩ := List.getElem?_eq_some_iff.1 he
            obtain ⟨bi', hb', hr⟩ := R.live b _ hh
            rw [hb] at hb'; cases hb'
            have hr' := hr
            obtain ⟨cv, ty, h1, h2, h3, h4, h5⟩ := hr
            have hxc := hx.cellsRel
            have hei := h4 i hi
            have hlen : y.cells.toList.length = n := by rw [hxc.1]; exact hle.1
            have hroom : i * bi.esz + bi.esz ≤ bi.room * bi.esz := by
              have : (i + 1) * bi.esz ≤ bi.room * bi.esz := Nat.mul_le_mul_right _ (by omega)
              rw [Nat.add_mul, Nat.one_mul] at this; exact this
            obtain ⟨cs', hrun, hsz, hget⟩ := storeCells_at (P := P) bi.blk ty y.cells.toList (bi.base + i * bi.esz + j) 0 cv w h1 (by rw [hlen]; omega) (hxc.all_one hle.2.2)
            have hw := R.write (w' := w.setRow bi.blk cs') (to := b) (bi' := bi) hb (by simp [hh]) (.inl ⟨rfl, rfl⟩) rfl (by simp) (fun k hk => setRow_old _ _ _ _ hk) rfl rfl rfl
              (.row (es.set i (es[i].take j ++ (x.cells ++ es[i].drop (j + n))))) (fun β' m => by
                refine ⟨cs', ty, setRow_heap w bi.blk cv cs' ty _ h1, by rw [hsz]; exact h2, by simpa using h3, fun k hk => ?_, fun k l hk hl => ?_⟩
                · rw [List.getElem_set]
                  split
                  · simp only [List.length_append, List.length_take, List.length_drop]; omega
                  · exact h4 k (by simpa using hk)
                · have hk' : k < es.length := by simpa using hk
                  by_cases hki : i = k
                  · subst hki
                    simp only [List.getElem_set_self] at hl ⊢
                    simp only [List.length_append, List.length_take, List.length_drop] at hl
                    have hle' := hle.2.1
                    have hle1 := hle.1
                    by_cases l1 : l < j
                    · rw [List.getElem_append_left (by simp; omega)]
                      simp only [List.getElem_take]
                      obtain ⟨ho, u, hu, hv⟩ := h5 i l hi (by omega)
                      refine ⟨ho, u, ?_, hv.mono m⟩
                      rw [hget, if_neg (by omega)]; exact hu
                    · rw [List.getElem_append_right (by simp; omega)]
                      simp only [List.length_take, Nat.min_eq_left (show j ≤ es[i].length by omega)]
                      by_cases l2 : l < j + n
                      · rw [List.getElem_append_left (by omega)]
                        have hlx : l - j < x.cells.length := by omega
                        refine ⟨List.all_eq_true.1 hle.2.2 _ (List.getElem_mem hlx), y.cells.toList[l - j]'(by omega), ?_, (hxc.2 (l - j) hlx (by omega)).mono m⟩
                        rw [hget, if_pos (by omega)]
                        rw [List.getElem?_eq_getElem (by omega)]
                        congr 2; omega
                      · rw [List.getElem_append_right (by omega)]
                        simp only [List.getElem_drop]
                        obtain ⟨ho, u, hu, hv⟩ := h5 i l hi (by omega)
                        have e1 : j + n + (l - j - x.cells.length) = l := by omega
                        simp only [e1]
                        refine ⟨ho, u, ?_, hv.mono m⟩
                        rw [hget, if_neg (by omega)]; exact hu
                  · have hne : (es.set i (es[i].take j ++ (x.cells ++ es[i].drop (j + n))))[k]'hk = es[k] := by rw [List.getElem_set_ne hki]
                    have hl2 : l < (es[k]).length := by rw [← hne]; exact hl
                    obtain ⟨ho, u, hu, hv⟩ := h5 k l hk' hl2
                    have hsame : ((es.set i (es[i].take j ++ (x.cells ++ es[i].drop (j + n))))[k]'hk)[l]'hl = (es[k])[l] := by
                      simp only [hne]
                    rw [hsame]
                    refine ⟨ho, u, ?_, hv.mono m⟩
                    rw [hget, if_neg]
                    · exact hu
                    · have hl3 : l < bi.esz := by rw [← h4 k hk']; exact hl2
                      rcases Nat.lt_or_gt_of_ne hki with hlt | hgt
                      · have : (i + 1) * bi.esz ≤ k * bi.esz := Nat.mul_le_mul_right _ hlt
                        rw [Nat.add_mul, Nat.one_mul] at this
                        have := hle.2.1
                        omega
                      · have : (k + 1) * bi.esz ≤ i * bi.esz := Nat.mul_le_mul_right _ hgt
                        rw [Nat.add_mul, Nat.one_mul] at this
                        omega)
            rw [Heap.put_put] at hw
            obtain ⟨β', m, hid, _, R'⟩ := hw
            have hβ : ∀ id, id ≠ fr → β' id = β id := fun id _ => by
              by_cases e : id = b
              · subst e
                rw [m.bs _ _ hb, hb]
              · exact hid id e
            refine ⟨undef, w.setRow bi.blk cs', β', .inr ⟨?_, rfl⟩, m, hβ, R', .undef⟩
            have hsz' : y.cells.size = n := by simpa using hlen
            simp [Instr.storeAt, Instr.sureAddr, storeVar, sizeOf_run ht, hsz', hrun]
          · cases hs
  | undef => cases hs
  | d t x h => cases hs
  | iptr => cases hs
  | sl => cases hs
  | map => cases hs
  | fn => cases hs
  | agg => cases hs
  | tup => cases hs
  | yield => cases hs
  | it => cases hs
  | emp => cases hs
  | opq => cases hs

/-! ### What is made -/

theorem row_new {β' : Nat → Option BI} {w' : World} {ty : TypeId} {es : List (List V)} {cs : Array Value} {esz room : Nat} (hw : w'.heap[w.heap.size]? = some (.cells cs ty (0, 0)))
    (hs : room * esz ≤ cs.size) (hn : es.length ≤ room) (he : ∀ (i : Nat) (hi : i < es.length), (es[i]).length = esz)
    (hc : ∀ (i j : Nat) (hi : i < es.length) (hj : j < (es[i]).length), ((es[i])[j]).one = true ∧ ∃ x, cs[i * esz + j]? = some x ∧ VRel β' I w' (es[i])[j] x) :
    BlkRel P β' I w' ⟨w.heap.size, 0, esz, room⟩ (.row es) :=
  ⟨cs, ty, hw, by simpa using hs, hn, he, fun i j hi hj => by simpa using hc i j hi hj⟩

/-- A new variable. -/
theorem var_new {cells : List V} {xs : Array Value} {ty : TypeId} (R : Rel P w0 I0 β I h w) (hf : β fr = none) (hc : CRel β I w cells xs.toList) (ho : cells.all V.one = true) :
    ∃ β', Mono β I w β' I (w.alloc (.cells xs ty)) ∧ (∀ id, id ≠ fr → β' id = β id) ∧ Rel P w0 I0 β' I (h.put fr (some (.row [cells]))) (w.alloc (.cells xs ty)) ∧
      VRel β' I (w.alloc (.cells xs ty)) (.ptr fr 0 0) (.pointer (some ⟨w.heap.size, 0, none⟩)) := by
  have hsz : xs.size = cells.length := by simpa using hc.1
  obtain ⟨β', m, hid, hbi, R'⟩ := R.make (w' := w.alloc (.cells xs ty)) hf (.cells xs ty) rfl rfl rfl rfl ⟨w.heap.size, 0, cells.length, 1⟩ rfl (.row [cells]) (fun β' m =>
    row_new (heap_alloc_new w _) (by omega) (by simp) (fun i hi => by simp at hi; subst hi; rfl) (fun i j hi hj => by
      simp at hi; subst hi
      simp only [List.getElem_cons_zero] at hj ⊢
      refine ⟨List.all_eq_true.1 ho _ (List.getElem_mem hj), xs.toList[j]'(by rw [hc.1]; exact hj), ?_, (hc.2 j hj (by rw [hc.1]; exact hj)).mono m⟩
      simp))
  have hp := VRel.ptr (I := I) (w := w.alloc (.cells xs ty)) fr 0 0 _ hbi
  simp only [Nat.zero_mul, Nat.add_zero] at hp
  exact ⟨β', m, hid, R', hp⟩

theorem CRel_of_zero {l : List Value} : ∀ {vs : List V}, freezeList leafV l = some vs → CRel β I w vs l := by
  induction l with
  | nil => intro vs hz; cases hz; exact .nil
  | cons x xs ih =>
    intro vs hz
    unfold freezeList at hz
    cases hx : leafV x with
    | none => rw [hx] at hz; cases hz
    | some y =>
      rw [hx] at hz
      cases hxs : freezeList leafV xs with
      | none => rw [hxs] at hz; cases hz
      | some ys =>
        rw [hxs] at hz
        cases hz
        refine .cons ?_ (ih hxs)
        unfold leafV at hx
        split at hx <;> cases hx <;> exact .d _ _ (by constructor)

theorem const_rel {x : Value} {v : V} (hz : constV x = some v) : VRel β I w v x := by
  unfold constV at hz
  split at hz
  · rename_i cs
    split at hz
    · rename_i vs hv
      cases hz
      have := CRel_of_zero (β := β) (I := I) (w := w) hv
      exact .agg _ _ (by simpa using this.1) this.array
    · cases hz
  · unfold leafV at hz
    split at hz <;> cases hz <;> exact .d _ _ (by constructor)

theorem zero_run {t : TypeId} {v : V} (hz : zeroTy P t = some v) : ∃ x, (zeroValue t).run P w = .ok x w ∧ ∀ (β : Nat → Option BI) (I : Nat → Prop) (w : World), VRel β I w v x := by
  unfold zeroTy at hz
  cases hi : P.info? t with
  | none => rw [hi] at hz; cases hz
  | some i =>
    rw [hi] at hz
    cases hzz : i.zero with
    | none => simp only [hzz] at hz; cases hz
    | some z =>
      simp only [hzz] at hz
      exact ⟨z, by simp [zeroValue, typeInfo, hi, hzz], fun β I w => const_rel hz⟩

theorem sim_alloc {t : TypeId} {z : V} (hz : zeroTy P t = some z) (ho : z.cells.all V.one = true) (R : Rel P w0 I0 β I h w) (hf : β fr = none) :
    Sim P w0 I0 β I w (h.put fr (some (.row [z.cells]))) fr (.ptr fr 0 0) (do pure (.value (← Instr.alloc t true (.tuple #[])))) := by
  obtain ⟨x, hx, hv⟩ := zero_run (w := w) hz
  obtain ⟨β', m, hid, R', hp⟩ := var_new (ty := t) R hf (hv β I w).cellsRel ho
  exact ⟨_, _, β', .inl (by simp [Instr.alloc, hx, newVar, newRow]), m, hid, R', hp⟩

theorem sim_box {t : TypeId} {v : V} {x : Value} (hv : VRel β I w v x) (ho : v.cells.all V.one = true) (R : Rel P w0 I0 β I h w) (hf : β fr = none) :
    Sim P w0 I0 β I w (h.put fr (some (.row [v.cells]))) fr (.ptr fr 0 0) (do pure (.value (← Instr.box t x))) := by
  obtain ⟨β', m, hid, R', hp⟩ := var_new (ty := t) R hf hv.cellsRel ho
  exact ⟨_, _, β', .inl (by simp [Instr.box, newVar, newRow]), m, hid, R', hp⟩

theorem sim_makeMap (R : Rel P w0 I0 β I h w) (hf : β fr = none) {s : Sem Next} (hs : s.run P w = .ok (.value (.map (some w.heap.size))) (w.alloc (.map #[] 0))) :
    Sim P w0 I0 β I w (h.put fr (some (.map []))) fr (.map fr) s := by
  obtain ⟨β', m, hid, hbi, R'⟩ := R.make (w' := w.alloc (.map #[] 0)) hf (.map #[] 0) rfl rfl rfl rfl ⟨w.heap.size, 0, 0, 0⟩ rfl (.map []) (fun β' m =>
    ⟨#[], 0, heap_alloc_new w _, rfl, ⟨rfl, fun i hi => absurd hi (by simp)⟩, fun i hi => absurd hi (by simp)⟩)
  exact ⟨_, _, β', .inl hs, m, hid, R', .map fr _ hbi⟩

end
end Go.Dv
