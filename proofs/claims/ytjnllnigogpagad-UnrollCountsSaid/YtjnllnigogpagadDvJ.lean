/- Each operation of the D machine is what the model's operation does: maps written; structs and slices that are built or made. No condition. -/
import Derived.Test.YtjnllnigogpagadDvI
namespace Go.Dv

section
variable {P : Program} {w0 : World} {I0 : Nat → Prop} {β : Nat → Option BI} {I : Nat → Prop} {w : World} {h : Heap} {fr : Nat}

theorem setObj_run {r : Nat} {ents : Array MapEntry} {clock : Nat} {o : Obj} (hb : w.heap[r]? = some (.map ents clock)) :
    (setObj r o).run P w = .ok () { w with heap := w.heap.setIfInBounds r o } := by
  simp [setObj, Sem.run, hb]

theorem sim_mapUpdate {t kt e : TypeId} {kk : KK} {m k x : V} {a b c : Value} {h' : Heap} (ht : P.underlying t = some (.map kt e)) (hk : keyTy P kt = some kk)
    (R : Rel P w0 I0 β I h w) (hm : VRel β I w m a) (hkx : VRel β I w k b) (hxv : VRel β I w x c) (hv : mapUpdateV kk h m k x = some h') :
    Sim P w0 I0 β I w h' fr .undef (do Instr.mapUpdate t a b c; pure .skip) := by
  unfold mapUpdateV at hv
  split at hv
  · rename_i bb ts hkc
    obtain ⟨kx, rfl, hc, hks⟩ := keyCells_ok hkx hkc
    split at hv
    · rename_i kvs hh
      split at hv
      · rename_i kvs' hset
        cases hv
        cases hm with
        | map _ bi hbi =>
          obtain ⟨bi', hbi', hrel⟩ := R.live bb _ hh
          rw [hbi] at hbi'; cases hbi'
          obtain ⟨ents, clock, h1, h2, hbn, h3⟩ := hrel
          have hlt : bi.blk < w.heap.size := (R.own bb bi hbi).2.1
          obtain ⟨o, ho, hor⟩ := setKv_idx hset
          have hrelk : ∀ (i : Nat) (hi : i < kvs.length) (hi' : i < ents.toList.length), KRel I w (kvs[i]).1 (ents.toList[i]).key := fun i hi hi' => by
            rw [Array.getElem_toList]; exact (h3 i hi (by simpa using hi')).1
          have hfind := findKey_run (P := P) hk hks hc kvs ents.toList o (by simpa using h2) hrelk ho
          have hchk := checkKey_run (P := P) (em := false) hk hks hc
          have fin : ∀ ents' clock', (Instr.mapUpdate t (.map (some bi.blk)) (mkV kk.agg kx) c).run P w = .ok () { w with heap := w.heap.setIfInBounds bi.blk (.map ents' clock') } → ents'.size = kvs'.length → (clock' = ents'.size ∧ ∀ (i : Nat) (h : i < ents'.size), (ents'[i]).born = i) →
              (∀ (i : Nat) (h : i < kvs'.length) (h' : i < ents'.size), KRel I w (kvs'[i]).1 (ents'[i]).key ∧ VRel β I w (kvs'[i]).2 (ents'[i]).val) →
              Sim P w0 I0 β I w (h.put bb (some (.map kvs'))) fr .undef (do Instr.mapUpdate t (.map (some bi.blk)) (mkV kk.agg kx) c; pure .skip) := by
            intro ents' clock' hrun hsz hbn' hr
            have hw := R.write (w' := { w with heap := w.heap.setIfInBounds bi.blk (.map ents' clock') }) (to := bb) (bi' := bi) hbi (by simp [hh]) (.inl ⟨rfl, rfl⟩) rfl (by simp)
              (fun k hk => by simp [Ne.symm hk]) rfl rfl rfl (.map kvs') (fun β' mm => by
                refine ⟨ents', clock', by simp [hlt], hsz, hbn', fun i hi hi' => ?_⟩
                have := hr i hi hi'
                exact ⟨this.1.mono mm.is mm.heap, this.2.mono mm⟩)
            rw [Heap.put_put] at hw
            obtain ⟨β', mm, hid, _, R'⟩ := hw
            have hβ : ∀ id, id ≠ fr → β' id = β id := fun id _ => by
              by_cases e : id = bb
              · subst e
                rw [mm.bs _ _ hbi, hbi]
              · exact hid id e
            exact ⟨undef, _, β', .inr ⟨by simp [hrun], rfl⟩, mm, hβ, R', .undef⟩
          rcases hor with ⟨rfl, rfl⟩ | ⟨i, hi, rfl, rfl⟩
          · refine fin (ents.push { key := mkV kk.agg kx, val := c, born := clock }) (clock + 1) ?_ (by simp [h2]) ⟨by simp [hbn.1], fun i hi => by
              rw [Array.getElem_push]
              split
              · exact hbn.2 i _
              · rename_i hlt2
                show clock = i
                rw [hbn.1]
                simp at hi
                omega⟩ (fun i hi hi' => ?_)
            · simp only [Instr.mapUpdate, Sem.run_bind, run_underlying ht, Result.andThen_ok, getObj_run h1, hchk, hfind, hitOf, setObj_run h1]
            · by_cases e : i < kvs.length
              · have e2 : i < ents.size := by omega
                rw [List.getElem_append_left e, Array.getElem_push_lt e2]
                exact h3 i e e2
              · have e3 : i = kvs.length := by simp at hi; omega
                have e4 : i = ents.size := by omega
                subst e4
                rw [List.getElem_append_right (by omega), Array.getElem_push_eq]
                simp only [h2, Nat.sub_self, List.getElem_cons_zero]
                exact ⟨⟨kx, rfl, hc⟩, hxv⟩
          · have hi2 : i < ents.size := by omega
            have hk3 := (h3 i hi hi2).1
            have hbits : Instr.sameBits 10000 (ents[i]).key (mkV kk.agg kx) = true := by
              -- the key that was found is the key that came
              obtain ⟨hka, hks2, hs⟩ : (kvs[i]).1.1 = kk.agg ∧ kindsOk kk.ks (kvs[i]).1.2 = true ∧ sameCells ts (kvs[i]).1.2 = true := by
                clear hset hfind fin hh h2 h3 hrelk hk3
                have hit : ∀ (l : List ((Bool × List T) × V)) (j : Nat) (hj : j < l.length), findIdx kk ts l = some (some j) →
                    (l[j]).1.1 = kk.agg ∧ kindsOk kk.ks (l[j]).1.2 = true ∧ sameCells ts (l[j]).1.2 = true := by
                  intro l
                  induction l with
                  | nil => intro j hj; exact absurd hj (by simp)
                  | cons p l ih =>
                    intro j hj hf
                    unfold findIdx at hf
                    split at hf
                    · rename_i hp
                      split at hf
                      · rename_i hs
                        cases hf
                        exact ⟨hp.1, hp.2, hs⟩
                      · cases hf2 : findIdx kk ts l with
                        | none => rw [hf2] at hf; cases hf
                        | some o =>
                          rw [hf2] at hf
                          cases o with
                          | none => cases hf
                          | some q =>
                            simp only [Option.map_some, Option.some.injEq] at hf
                            subst hf
                            exact ih q (by simpa using hj) hf2
                    · cases hf
                exact hit kvs i hi ho
              obtain ⟨xs, hex, hxs⟩ := hk3
              rw [hex, hka]
              exact sameBits_key hk hks hks2 hc hxs hs
            refine fin (ents.modify i fun e => { e with key := mkV kk.agg kx, val := c }) clock ?_ (by simp [h2]) ⟨by simp [hbn.1], fun j hj => by
              have hj2 : j < ents.size := by simpa using hj
              by_cases e : i = j
              · subst e
                simp only [Array.getElem_modify_self]
                exact hbn.2 i hj2
              · rw [Array.getElem_modify_of_ne e]
                exact hbn.2 j hj2⟩ (fun j hj hj' => ?_)
            · have hhit : hitOf ents.toList 0 (some i) = some (0 + i, (ents[i]).val) := by simp [hitOf, hi2]
              simp only [Instr.mapUpdate, Sem.run_bind, run_underlying ht, Result.andThen_ok, getObj_run h1, hchk, hfind, hhit, Nat.zero_add, Array.getElem?_eq_getElem hi2, Option.map_some, Option.getD_some]
              simp only [Instr.keyThatStays, hbits, if_true, Sem.run_pure, Result.andThen_ok, setObj_run h1]
            · have hj2 : j < ents.size := by simpa using hj'
              by_cases e : i = j
              · subst e
                simp only [List.getElem_set_self, Array.getElem_modify_self]
                exact ⟨⟨kx, rfl, hc⟩, hxv⟩
              · rw [List.getElem_set_ne e, Array.getElem_modify_of_ne e]
                exact h3 j (by simpa using hj) hj2
      · cases hv
    · cases hv
  · cases hv

/-! ### Parts -/

theorem fold_spec (off : Nat) : ∀ (l : List Value) (n : Nat) (cells : Array Value),
    ((l.zipIdx n).foldl (fun cs (p : Value × Nat) => cs.setIfInBounds (off + p.2) p.1) cells).size = cells.size ∧
    ∀ m, m < cells.size → ((l.zipIdx n).foldl (fun cs (p : Value × Nat) => cs.setIfInBounds (off + p.2) p.1) cells)[m]? = if off + n ≤ m ∧ m < off + n + l.length then l[m - (off + n)]? else cells[m]?
  | [], n, cells => ⟨rfl, fun m hm => by rw [if_neg (by simp only [List.length_nil]; omega)]; rfl⟩
  | x :: l, n, cells => by
    obtain ⟨h1, h2⟩ := fold_spec off l (n + 1) (cells.setIfInBounds (off + n) x)
    simp only [List.zipIdx_cons, List.foldl_cons]
    refine ⟨by rw [h1]; simp, fun m hm => ?_⟩
    rw [h2 m (by simpa using hm)]
    simp only [List.length_cons]
    by_cases e : m = off + n
    · subst e
      rw [if_neg (by omega), if_pos (by omega)]
      simp [hm]
    · by_cases e2 : off + (n + 1) ≤ m ∧ m < off + (n + 1) + l.length
      · rw [if_pos e2, if_pos (by omega), show m - (off + n) = (m - (off + (n + 1))) + 1 by omega, List.getElem?_cons_succ]
      · rw [if_neg e2, if_neg (by omega), Array.getElem?_setIfInBounds_ne (by omega)]

/-- One part is put into its place. -/
theorem fill_cons {place : Nat → Option (Nat × Nat)} {cells : Array Value} {i off size : Nat} {v : Value} {rest : List (Nat × Value)} (hp : place i = some (off, size)) (hs : v.cells.size = size)
    (hle : off + size ≤ cells.size) : ∃ cells' : Array Value, Instr.fill place cells ((i, v) :: rest) = Instr.fill place cells' rest ∧ cells'.size = cells.size ∧
      ∀ m, m < cells.size → cells'[m]? = if off ≤ m ∧ m < off + size then v.cells[m - off]? else cells[m]? := by
  obtain ⟨h1, h2⟩ := fold_spec off v.cells.toList 0 cells
  refine ⟨_, ?_, h1, fun m hm => ?_⟩
  · simp only [Instr.fill, hp, hs, ne_eq, not_true_eq_false, decide_false, Bool.false_or, decide_eq_true_eq]
    rw [if_neg (by omega)]
    congr 1
    rw [← Array.foldl_toList, Array.toList_zipIdx]
  · have := h2 m hm
    rw [this]
    simp [hs]

theorem fillV_rel {ρ : DOpnd → V} {place : Nat → Option (Nat × Nat)} : ∀ {ps : List (Nat × Nat × DOpnd)} {parts : List (Nat × Value)} {cs cs' : List V} {cells : Array Value},
    parts.length = ps.length → (∀ (i : Nat) (hi : i < ps.length) (hi' : i < parts.length), place (parts[i]).1 = some ((ps[i]).1, (ps[i]).2.1) ∧ VRel β I w (ρ (ps[i]).2.2) (parts[i]).2) →
    CRel β I w cs cells.toList → fillV ρ ps cs = some cs' → ∃ cells', Instr.fill place cells parts = some cells' ∧ CRel β I w cs' cells'.toList
  | [], [], cs, cs', cells, _, _, hc, hf => by cases hf; exact ⟨cells, rfl, hc⟩
  | [], _ :: _, _, _, _, hl, _, _, _ => by simp at hl
  | _ :: _, [], _, _, _, hl, _, _, _ => by simp at hl
  | (off, size, x) :: ps, (i, v) :: parts, cs, cs', cells, hl, hr, hc, hf => by
    unfold fillV at hf
    split at hf
    · rename_i hle
      obtain ⟨hp, hv⟩ := hr 0 (by simp) (by simp)
      simp only [List.getElem_cons_zero] at hp hv
      have hvc := hv.cellsRel
      have hcl : cells.size = cs.length := by simpa using hc.1
      have hvs : v.cells.size = size := by have := hvc.1; simp only [Array.length_toList] at this; omega
      obtain ⟨cells', hfill, hsz, hget⟩ := fill_cons (cells := cells) (rest := parts) hp hvs (by omega)
      rw [hfill]
      refine fillV_rel (ps := ps) (by simpa using hl) (fun j hj hj' => by
        have := hr (j + 1) (by simpa using hj) (by simpa using hj')
        simpa using this) ?_ hf
      refine ⟨by simp [hsz]; omega, fun m hm hm' => ?_⟩
      have hm2 : m < cells.size := by rw [← hsz]; simpa using hm'
      have hg := hget m hm2
      have hm3 : m < cells'.size := by omega
      have hce : cells'.toList[m]'hm' = cells'[m] := Array.getElem_toList ..
      rw [Array.getElem?_eq_getElem hm3] at hg
      by_cases m1 : m < off
      · rw [if_neg (by omega), Array.getElem?_eq_getElem hm2] at hg
        rw [List.getElem_append_left (by simp; omega), hce, Option.some.inj hg]
        simp only [List.getElem_take]
        exact hc.array m (by omega) hm2
      · rw [List.getElem_append_right (by simp; omega)]
        simp only [List.length_take, Nat.min_eq_left (show off ≤ cs.length by omega)]
        by_cases m2 : m < off + size
        · rw [if_pos (by omega), Array.getElem?_eq_getElem (by omega)] at hg
          rw [List.getElem_append_left (by omega), hce, Option.some.inj hg]
          exact hvc.array _ _ _
        · rw [if_neg (by omega), Array.getElem?_eq_getElem hm2] at hg
          rw [List.getElem_append_right (by omega), hce, Option.some.inj hg]
          simp only [List.getElem_drop]
          have e1 : off + size + (m - off - (ρ x).cells.length) = m := by omega
          simp only [e1]
          exact hc.array m (by omega) hm2
    · cases hf

theorem fillRows_rel {ρ : DOpnd → V} {esz : Nat} : ∀ {ps : List (Nat × DOpnd)} {parts : List (Nat × Value)} {es es' : List (List V)} {cells : Array Value},
    parts.length = ps.length → (∀ (i : Nat) (hi : i < ps.length) (hi' : i < parts.length), (parts[i]).1 = (ps[i]).1 ∧ VRel β I w (ρ (ps[i]).2) (parts[i]).2) →
    ERel β I w esz es cells.toList → fillRows ρ esz ps es = some es' → es'.length = es.length ∧
      ∃ cells', Instr.fill (fun i => some (i * esz, esz)) cells parts = some cells' ∧ ERel β I w esz es' cells'.toList
  | [], [], es, es', cells, _, _, hc, hf => by cases hf; exact ⟨rfl, cells, rfl, hc⟩
  | [], _ :: _, _, _, _, hl, _, _, _ => by simp at hl
  | _ :: _, [], _, _, _, hl, _, _, _ => by simp at hl
  | (i, x) :: ps, (i', v) :: parts, es, es', cells, hl, hr, hc, hf => by
    unfold fillRows at hf
    split at hf
    · rename_i hle
      obtain ⟨hx1, hx2, hx3⟩ := hle
      obtain ⟨hp, hv⟩ := hr 0 (by simp) (by simp)
      simp only [List.getElem_cons_zero] at hp hv
      subst hp
      have hvc := hv.cellsRel
      have hcl : cells.size = es.length * esz := by simpa using hc.1
      have hvs : v.cells.size = esz := by have := hvc.1; simp only [Array.length_toList] at this; omega
      have hmul : (i' + 1) * esz ≤ es.length * esz := Nat.mul_le_mul_right _ hx2
      rw [Nat.add_mul, Nat.one_mul] at hmul
      obtain ⟨cells', hfill, hsz, hget⟩ := fill_cons (place := fun i => some (i * esz, esz)) (cells := cells) (rest := parts) (i := i') rfl hvs (by omega)
      rw [hfill]
      have ih := fillRows_rel (ρ := ρ) (esz := esz) (ps := ps) (parts := parts) (es := es.set i' (ρ x).cells) (es' := es') (cells := cells') (by simpa using hl) (fun j hj hj' => by
        have := hr (j + 1) (by simpa using hj) (by simpa using hj')
        simpa using this) ?_ hf
      · exact ⟨by simpa using ih.1, ih.2⟩
      refine ⟨by simp [hsz, hcl], fun k hk => ?_, fun k j hk hj => ?_⟩
      · rw [List.getElem_set]
        split
        · exact hx1
        · exact hc.2.1 k (by simpa using hk)
      · have hk2 : k < es.length := by simpa using hk
        have hjz : j < esz := by
          rw [List.getElem_set] at hj
          split at hj
          · omega
          · rw [hc.2.1 k hk2] at hj; exact hj
        have hm := lt_mul_of hk2 hjz
        have hg := hget (k * esz + j) (by omega)
        have htl : cells'.toList[k * esz + j]? = cells'[k * esz + j]? := Array.getElem?_toList ..
        rw [htl, hg]
        by_cases e : i' = k
        · subst e
          rw [if_pos (by omega)]
          simp only [List.getElem_set_self]
          have hj2 : j < (ρ x).cells.length := by omega
          refine ⟨List.all_eq_true.1 hx3 _ (List.getElem_mem hj2), v.cells[j]'(by omega), ?_, hvc.array j hj2 (by omega)⟩
          rw [show i' * esz + j - i' * esz = j by omega, Array.getElem?_eq_getElem (by omega)]
        · have hne : ¬ (i' * esz ≤ k * esz + j ∧ k * esz + j < i' * esz + esz) := by
            rcases Nat.lt_or_gt_of_ne e with h1 | h1
            · have : (i' + 1) * esz ≤ k * esz := Nat.mul_le_mul_right _ h1
              rw [Nat.add_mul, Nat.one_mul] at this; omega
            · have : (k + 1) * esz ≤ i' * esz := Nat.mul_le_mul_right _ h1
              rw [Nat.add_mul, Nat.one_mul] at this; omega
          rw [if_neg hne]
          have hee : (es.set i' (ρ x).cells)[k] = es[k] := List.getElem_set_ne e ..
          have hj3 : j < (es[k]).length := by rw [hc.2.1 k hk2]; exact hjz
          obtain ⟨ho, u, hu, hvu⟩ := hc.2.2 k j hk2 hj3
          have hge : ((es.set i' (ρ x).cells)[k])[j] = (es[k])[j] := by simp only [hee]
          rw [hge]
          exact ⟨ho, u, by simpa using hu, hvu⟩
    · cases hf

theorem replicate_rel {zero : List V} {zx : Value} {esz : Nat} (hz : CRel β I w zero zx.cells.toList) (hl : zero.length = esz) (ho : zero.all V.one = true) (len : Nat) :
    ERel β I w esz (List.replicate len zero) ((Array.range (len * esz)).map (zx.cells[· % zx.cells.size]!)).toList := by
  have hzs : zx.cells.size = esz := by have := hz.1; simp only [Array.length_toList] at this; omega
  refine ⟨by simp, fun i hi => by simp [hl], fun i j hi hj => ?_⟩
  simp only [List.getElem_replicate] at hj ⊢
  have hi' : i < len := by simpa using hi
  have hjz : j < esz := by omega
  have hm := lt_mul_of hi' hjz
  refine ⟨List.all_eq_true.1 ho _ (List.getElem_mem hj), zx.cells[j]'(by omega), ?_, hz.array j hj (by omega)⟩
  simp only [Array.toList_map, List.getElem?_map, Array.toList_range, List.getElem?_range hm, Option.map_some, hzs]
  rw [(div_mod_of hjz).2]
  rw [getElem!_pos zx.cells j (by omega)]

theorem row_made {es : List (List V)} {cells : Array Value} {e : TypeId} {esz cap : Nat} (R : Rel P w0 I0 β I h w) (hf : β fr = none) (hc : ERel β I w esz es (cells.toList.take (es.length * esz)))
    (hs : cap * esz ≤ cells.size) (hle : es.length ≤ cap) :
    ∃ β', Mono β I w β' I (w.alloc (.cells cells e)) ∧ (∀ id, id ≠ fr → β' id = β id) ∧ Rel P w0 I0 β' I (h.put fr (some (.row es))) (w.alloc (.cells cells e)) ∧
      VRel β' I (w.alloc (.cells cells e)) (.sl fr 0 es.length esz) (.slice (some ⟨w.heap.size, 0, none⟩) es.length cap) := by
  obtain ⟨β', m, hid, hbi, R'⟩ := R.make (w' := w.alloc (.cells cells e)) hf (.cells cells e) rfl rfl rfl rfl ⟨w.heap.size, 0, esz, cap⟩ rfl (.row es) (fun β' m =>
    row_new (w := w) (heap_alloc_new w _) hs hle hc.2.1 (fun i j hi hj => by
      obtain ⟨ho, u, hu, hv⟩ := hc.2.2 i j hi hj
      refine ⟨ho, u, ?_, hv.mono m⟩
      have hjz : j < esz := by rw [← hc.2.1 i hi]; exact hj
      rw [List.getElem?_take, if_pos (lt_mul_of hi hjz)] at hu
      simpa using hu))
  exact ⟨β', m, hid, R', .sl fr 0 _ esz cap _ ⟨w.heap.size, 0, none⟩ hbi rfl rfl rfl (fun _ => by simp) hle (by simp)⟩

theorem sim_buildSlice {t e : TypeId} {esz len : Nat} {z : V} {ρ : DOpnd → V} {ps : List (Nat × DOpnd)} {parts : Array (Nat × Value)} {es : List (List V)} (ht : elemTy P t = some e) (hs : szTy P e = some esz)
    (hz : zeroTy P e = some z) (hlim : len * esz ≤ 2 ^ 24) (hzl : z.cells.length = esz) (hzo : z.cells.all V.one = true) (R : Rel P w0 I0 β I h w) (hf : β fr = none)
    (hl : parts.toList.length = ps.length) (hr : ∀ (i : Nat) (hi : i < ps.length) (hi' : i < parts.toList.length), (parts.toList[i]).1 = (ps[i]).1 ∧ VRel β I w (ρ (ps[i]).2) (parts.toList[i]).2)
    (hev : fillRows ρ esz ps (List.replicate len z.cells) = some es) :
    Sim P w0 I0 β I w (h.put fr (some (.row es))) fr (.sl fr 0 len esz) (do pure (.value (← Instr.buildSlice t len parts))) := by
  obtain ⟨zx, hzr, hzv⟩ := zero_run (P := P) (w := w) hz
  have hzc := (hzv β I w).cellsRel
  have h0 := replicate_rel hzc hzl hzo len
  obtain ⟨hlen, cells', hfill, hce⟩ := fillRows_rel hl hr h0 hev
  have hl2 : es.length = len := by simpa using hlen
  have hcl : cells'.size = len * esz := by have := hce.1; simp only [Array.length_toList] at this; rw [this, hl2]
  obtain ⟨β', m, hid, R', hv⟩ := row_made (e := e) (es := es) (cap := len) (cells := cells') (esz := esz) R hf (by rw [List.take_of_length_le (by simp [hcl, hl2])]; exact hce) (by omega) (by omega)
  rw [hl2] at hv
  refine ⟨_, _, β', .inl ?_, m, hid, R', hv⟩
  have hlim' : ¬ (len * esz > 2 ^ 24) := by omega
  have hu := elem_of ht
  simp only [Instr.buildSlice, Sem.run_bind, run_underlying hu, Result.andThen_ok, sizeOf_run hs, if_neg hlim', Sem.run_pure]
  by_cases h00 : len * esz = 0
  · have hc : (Array.range (len * esz)).map ((#[] : Array Value)[· % (#[] : Array Value).size]!) = (Array.range (len * esz)).map (zx.cells[· % zx.cells.size]!) := by rw [h00]; simp
    rw [if_pos h00]
    simp only [Sem.run_bind, Sem.run_pure, Result.andThen_ok]
    rw [hc, hfill]
    simp [newRow]
  · rw [if_neg h00]
    simp only [Sem.run_bind, Sem.run_pure, Result.andThen_ok, hzr]
    rw [hfill]
    simp [newRow]

theorem sim_makeSlice {t e : TypeId} {esz bytes : Nat} {z len cap v : V} {a b : Value} {h' : Heap} (ht : elemTy P t = some e) (hs : szTy P e = some esz) (hb : bytesTy P e = some bytes) (hz : zeroTy P e = some z)
    (hzo : z.cells.all V.one = true) (R : Rel P w0 I0 β I h w) (hf : β fr = none) (hx : VRel β I w len a) (hy : VRel β I w cap b) (hev : makeSliceV esz bytes z.cells h len cap fr = some (v, h')) :
    Sim P w0 I0 β I w h' fr v (do pure (.value (← Instr.makeSlice t a b))) := by
  unfold makeSliceV at hev
  split at hev
  · rename_i l c hl hc
    split at hev
    · rename_i hcond
      obtain ⟨c1, c2, c3, c4, c5⟩ := hcond
      cases hev
      obtain ⟨k1, rfl⟩ := intOf_rel hx hl
      obtain ⟨k2, rfl⟩ := intOf_rel hy hc
      obtain ⟨i, zx, hi, rfl, rfl, hiz, hzr⟩ := info_of hs hb hz
      have hu := elem_of ht
      have hzc := (hzr β I w).cellsRel
      have hzs : zx.cells.size = i.size := by have := hzc.1; simp only [Array.length_toList] at this; omega
      have h0 := replicate_rel hzc c5 hzo l.toNat
      have hwl : IntKind.i64.wrap l = l := by simp [IntKind.wrap, IntKind.bits, IntKind.signed]; omega
      have hwc : IntKind.i64.wrap c = c := by simp [IntKind.wrap, IntKind.bits, IntKind.signed]; omega
      have hle : l.toNat * i.size ≤ c.toNat * i.size := Nat.mul_le_mul_right _ (by omega)
      obtain ⟨β', m, hid, R', hv⟩ := row_made (e := e) (es := List.replicate l.toNat z.cells) (cap := c.toNat) (esz := i.size)
        (cells := (Array.range (c.toNat * i.size)).map (zx.cells[· % zx.cells.size]!)) R hf (by
          have e1 : (((Array.range (c.toNat * i.size)).map (zx.cells[· % zx.cells.size]!)).toList.take ((List.replicate l.toNat z.cells).length * i.size)) =
              ((Array.range (l.toNat * i.size)).map (zx.cells[· % zx.cells.size]!)).toList := by
            simp only [Array.toList_map, Array.toList_range, List.length_replicate, ← List.map_take]
            congr 1
            rw [List.take_range]
            congr 1
            omega
          rw [e1]; exact h0) (by simp) (by simp; omega)
      refine ⟨_, _, β', .inl ?_, m, hid, R', by simpa using hv⟩
      have hlarge : ∀ n : Int, 0 ≤ n → n ≤ c → ¬ ((n < 0 || (i.bytes : Int) * n > 2 ^ 48) = true) := by
        intro n hn hnc
        have : (i.bytes : Int) * n ≤ (i.bytes : Int) * c := Int.mul_le_mul_of_nonneg_left hnc (by omega)
        simp; omega
      have hcond : ¬ (((c < 0 || decide ((i.bytes : Int) * c > 2 ^ 48)) || decide (l < 0) || decide (l > c)) = true) := by
        have := hlarge c (by omega) (Int.le_refl _)
        simp at this ⊢; omega
      have hti : (typeInfo e).run P w = .ok i w := by simp [typeInfo, hi]
      simp only [Instr.makeSlice, Sem.run_bind, run_underlying hu, Result.andThen_ok, asInt, asIntOf, Sem.run_pure, hti, hwl, hwc]
      rw [if_neg (by simpa using hcond)]
      simp only [Sem.run_bind, Sem.run_pure, Result.andThen_ok, run_askRoom, sizeOf, hti]
      by_cases h00 : c.toNat * i.size = 0
      · have hc : (Array.range (c.toNat * i.size)).map ((#[] : Array Value)[· % (#[] : Array Value).size]!) = (Array.range (c.toNat * i.size)).map (zx.cells[· % zx.cells.size]!) := by rw [h00]; simp
        rw [if_pos h00]
        simp only [Sem.run_bind, Sem.run_pure, Result.andThen_ok]
        rw [hc]
        simp [newRow]
      · rw [if_neg h00]
        simp only [zeroValue, hti, hiz, Sem.run_bind, Sem.run_pure, Result.andThen_ok]
        simp [newRow]
    · cases hev
  · cases hev

end
end Go.Dv
