/- Iterators over maps of one entry at most. No condition. -/
import Derived.Test.YtjnllnigogpagadDvK
namespace Go.Dv

section
variable {P : Program} {w0 : World} {I0 : Nat → Prop} {β : Nat → Option BI} {I : Nat → Prop} {w : World} {h : Heap} {fr : Nat}

theorem getObj_it {r : Nat} {m : Option Nat} {s l : Nat} {seen : Array Nat} (h : w.heap[r]? = some (.mapIter m s seen l)) : (getObj r).run P w = .ok (.mapIter m s seen l) w := by simp [getObj, Sem.run, h]

theorem getObj_mp {r : Nat} {es : Array MapEntry} {c : Nat} (h : w.heap[r]? = some (.map es c)) : (getObj r).run P w = .ok (.map es c) w := by simp [getObj, Sem.run, h]

theorem setObj_it {r : Nat} {m : Option Nat} {s l : Nat} {seen : Array Nat} {o' : Obj} (h : w.heap[r]? = some (.mapIter m s seen l)) : (setObj r o').run P w = .ok () { w with heap := w.heap.setIfInBounds r o' } := by simp [setObj, Sem.run, h]

theorem KRel.val {k : Bool × List T} {x : Value} (h : KRel I w k x) : VRel β I w (ofCells k) x := by
  obtain ⟨xs, rfl, hl, hv⟩ := h
  obtain ⟨a, ts⟩ := k
  cases a with
  | true =>
    refine .agg _ _ (by simp [hl]) (fun i hi hi' => ?_)
    simp only [List.length_map] at hi
    simp only [List.getElem_map, List.getElem_toArray]
    exact .d _ _ (hv i hi (by simpa using hi'))
  | false =>
    cases ts with
    | nil =>
      have : xs = [] := List.length_eq_zero_iff.1 hl
      subst this
      exact .undef
    | cons t ts =>
      cases xs with
      | nil => simp at hl
      | cons x xs => exact .d _ _ (hv 0 (by simp) (by simp))

theorem sim_range {t kt e : TypeId} (ht : P.underlying t = some (.map kt e)) {x v : V} {a : Value} {h' : Heap} (R : Rel P w0 I0 β I h w) (hf : β fr = none) (hx : VRel β I w x a) (hv : rangeV h x fr = some (v, h')) :
    Sim P w0 I0 β I w h' fr v (do pure (.value (← Instr.range t a))) := by
  unfold rangeV at hv
  split at hv
  · cases hv
    cases hx with
    | d _ _ hx =>
      cases hx
      obtain ⟨β', m, hid, hbi, R'⟩ := R.make (w' := w.alloc (.mapIter none 0 #[] 0)) hf (.mapIter none 0 #[] 0) rfl rfl rfl rfl ⟨w.heap.size, 0, 0, 0⟩ rfl (.iter none 0 false) (fun β' m => heap_alloc_new w _)
      exact ⟨_, _, β', .inl (by simp [Instr.range, run_underlying ht]), m, hid, R', .it fr none _ hbi (fun _ h => by cases h)⟩
  · rename_i b
    split at hv
    · rename_i kvs hb
      cases hv
      cases hx with
      | map _ bm hbm =>
        obtain ⟨bm', hbm', ents, clock, h1, h2, hbn, h3⟩ := R.live b _ hb
        rw [hbm] at hbm'; cases hbm'
        have hc : clock = kvs.length := hbn.1.trans h2
        have hne : fr ≠ b := fun e => by rw [← e, hf] at hbm; cases hbm
        obtain ⟨β', m, hid, hbi, R'⟩ := R.make (w' := w.alloc (.mapIter (some bm.blk) clock #[] clock)) hf (.mapIter (some bm.blk) clock #[] clock) rfl rfl rfl rfl ⟨w.heap.size, 0, 0, 0⟩ rfl (.iter (some b) kvs.length false)
          (fun β' m => ⟨bm, m.bs _ _ hbm, by rw [← hc]; exact heap_alloc_new w _⟩)
        exact ⟨_, _, β', .inl (by simp [Instr.range, run_underlying ht, getObj_mp h1]), m, hid, R', .it fr (some b) _ hbi (fun k h => by cases h; rw [m.bs _ _ hbm]; simp)⟩
    · cases hv
  · cases hv

theorem sim_next {ty : TypeId} {x v : V} {a : Value} {h' : Heap} (R : Rel P w0 I0 β I h w) (hx : VRel β I w x a) (hv : nextV h x = some (v, h')) :
    Sim P w0 I0 β I w h' fr v (do pure (.value (← Instr.next a false ty))) := by
  unfold nextV at hv
  split at hv
  · rename_i b
    split at hv
    · rename_i hb
      cases hv
      cases hx with
      | it _ _ bi hbi =>
        obtain ⟨bi', hbi', hr⟩ := R.live b _ hb
        rw [hbi] at hbi'; cases hbi'
        have hr : w.heap[bi.blk]? = some (.mapIter none 0 #[] 0) := hr
        exact .keep (r := .tuple #[.bool false]) (by simp [Instr.next, getObj_it hr]) R (.tup _ _ rfl (fun i hi hi' => by
          have : i = 0 := by simpa using hi
          subst this
          exact .d _ _ (.bool _)))
    · cases hv
  · rename_i b mb
    split at hv
    · rename_i mb' since seen hb
      split at hv
      · rename_i kvs hm
        split at hv
        · rename_i hcond
          obtain ⟨rfl, hlen⟩ := hcond
          cases hx with
          | it _ _ bi hbi =>
            obtain ⟨bi', hbi', bm, hbm, hr⟩ := R.live b _ hb
            rw [hbi] at hbi'; cases hbi'
            obtain ⟨bm', hbm', ents, clock, h1, h2, hbn, h3⟩ := R.live mb' _ hm
            rw [hbm] at hbm'; cases hbm'
            have over : VRel β I w (.tup [.bool false]) (.tuple #[.bool false]) := .tup _ _ rfl (fun i hi hi' => by
              have : i = 0 := by simpa using hi
              subst this
              exact .d _ _ (.bool _))
            split at hv
            · cases hv
              have he : ents = #[] := Array.size_eq_zero_iff.1 (by simpa using h2)
              subst he
              refine .keep (r := .tuple #[.bool false]) ?_ R over
              simp [Instr.next, getObj_it hr, getObj_mp h1, Question.forced]
            · rename_i e
              obtain ⟨m0, rfl⟩ := Array.size_eq_one_iff.1 (show ents.size = 1 by simpa using h2)
              have hborn : m0.born = 0 := hbn.2 0 (by simp)
              have hclock : clock = 1 := by simpa using hbn.1
              have hsince : since = 1 := by simpa using hlen.symm
              subst hsince
              split at hv
              · rename_i hseen
                cases hv
                subst hseen
                refine .keep (r := .tuple #[.bool false]) ?_ R over
                simp [Instr.next, getObj_it hr, getObj_mp h1, Question.forced, hborn]
              · rename_i hseen
                have hseen : seen = false := by simpa using hseen
                subst hseen
                cases hv
                have hlt : bi.blk < w.heap.size := (R.own _ _ hbi).2.1
                have hw := R.write (w' := { w with heap := w.heap.setIfInBounds bi.blk (.mapIter (some bm.blk) 1 #[0] 1) }) (to := b) (bi' := bi) hbi (by simp [hb]) (.inl ⟨rfl, rfl⟩) rfl (by simp)
                  (fun k hk => by simp [Ne.symm hk]) rfl rfl rfl (.iter (some mb') 1 true) (fun β' mm => ⟨bm, mm.bs _ _ hbm, by simp [hlt]⟩)
                rw [Heap.put_put] at hw
                obtain ⟨β', mm, hid, _, R'⟩ := hw
                have hβ : ∀ id, id ≠ fr → β' id = β id := fun id _ => by
                  by_cases e : id = b
                  · subst e; rw [mm.bs _ _ hbi, hbi]
                  · exact hid id e
                have h0 := h3 0 (by simp) (by simp)
                refine ⟨.tuple #[.bool true, m0.key, m0.val], _, β', .inl ?_, mm, hβ, R', .tup _ _ rfl (fun i hi hi' => ?_)⟩
                · simp [Instr.next, getObj_it hr, getObj_mp h1, setObj_it hr, Question.forced, hborn, hclock]
                · match i, hi with
                  | 0, _ => exact .d _ _ (.bool _)
                  | 1, _ => exact (h0.1.mono mm.is mm.heap).val
                  | 2, _ => exact h0.2.mono mm
                  | i + 3, hi => simp at hi; omega
            · cases hv
        · cases hv
      · cases hv
    · cases hv
  · cases hv

theorem entry_ok {x v : V} {a : Value} (R : Rel P w0 I0 β I h w) (hx : VRel β I w x a) (hv : entryV h x = some v) : ∃ r, (Instr.entry a).run P w = .ok r w ∧ VRel β I w v r := by
  unfold entryV at hv
  split at hv
  · rename_i b mb
    split at hv
    · rename_i mb' since hb
      split at hv
      · rename_i e hm
        split at hv
        · rename_i hcond
          obtain ⟨rfl, rfl⟩ := hcond
          cases hv
          cases hx with
          | it _ _ bi hbi =>
            obtain ⟨bi', hbi', bm, hbm, hr⟩ := R.live b _ hb
            rw [hbi] at hbi'; cases hbi'
            obtain ⟨bm', hbm', ents, clock, h1, h2, hbn, h3⟩ := R.live mb' _ hm
            rw [hbm] at hbm'; cases hbm'
            obtain ⟨m0, rfl⟩ := Array.size_eq_one_iff.1 (show ents.size = 1 by simpa using h2)
            have hborn : m0.born = 0 := hbn.2 0 (by simp)
            have hclock : clock = 1 := by simpa using hbn.1
            have h0 := h3 0 (by simp) (by simp)
            refine ⟨.tuple #[m0.key, m0.val], ?_, .tup _ _ rfl (fun i hi hi' => ?_)⟩
            · simp only [if_true] at hr
              simp [Instr.entry, getObj_it hr, getObj_mp h1, hborn, hclock]
            · match i, hi with
              | 0, _ => exact h0.1.val
              | 1, _ => exact h0.2
              | i + 2, hi => simp at hi; omega
        · cases hv
      · cases hv
    · cases hv
  · cases hv

end
end Go.Dv
