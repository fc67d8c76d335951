/- All operations of the D machine that call no function, together. No condition. -/
import Derived.Test.YtjnllnigogpagadDvKa
namespace Go.Dv

section
variable {P : Program} {w0 : World} {I0 : Nat → Prop} {β : Nat → Option BI} {I : Nat → Prop} {w : World} {h : Heap} {fr : Nat}

/-- Operands stand for operands. -/
def ORel (β : Nat → Option BI) (I : Nat → Prop) (w : World) (ρ : DOpnd → V) (ρA : Operand → Value) : Prop := ∀ x y, compOpnd x = some y → VRel β I w (ρ y) (ρA x)

theorem compOpt_rel {ρ : DOpnd → V} {ρA : Operand → Value} (hρ : ORel β I w ρ ρA) {x : Option Operand} {y : Option DOpnd} (hc : compOpt x = some y) :
    (y.map ρ = none ∧ x.map ρA = none) ∨ ∃ a b, y.map ρ = some a ∧ x.map ρA = some b ∧ VRel β I w a b := by
  cases x with
  | none => cases hc; exact .inl ⟨rfl, rfl⟩
  | some x =>
    simp only [compOpt, Option.map_eq_some_iff] at hc
    obtain ⟨y', hy', rfl⟩ := hc
    exact .inr ⟨_, _, rfl, rfl, hρ _ _ hy'⟩

theorem Sim.ofValue {s : Sem Value} {v : V} {h' : Heap} {r : Option V} (R : Rel P w0 I0 β I h w) (he : keepH h r = some (v, h'))
    (hs : ∀ u, r = some u → ∃ x, s.run P w = .ok x w ∧ VRel β I w u x) : Sim P w0 I0 β I w h' fr v (do pure (.value (← s))) := by
  obtain ⟨hr, rfl⟩ := keepH_some he
  obtain ⟨x, hx, hv⟩ := hs v hr
  exact .keep (r := x) (by simp [hx]) R hv

set_option maxHeartbeats 600000 in
theorem op_sim0 {pure' : Nat → Bool} {o : Oper} {d : DOp} {ρ : DOpnd → V} {ρA : Operand → Value} {v : V} {h' : Heap} (hc : compOp0 P pure' o.op = some d)
    (hnc : ∀ m f args, d ≠ .call m f args) (hncv : ∀ x args, d ≠ .callv x args) (hρ : ORel β I w ρ ρA) (R : Rel P w0 I0 β I h w) (hf : β fr = none)
    (hev : evalOp d ρ h fr = some (v, h')) : Sim P w0 I0 β I w h' fr v (execOp ρA o) := by
  obtain ⟨dst, op, type, pos, after, guard⟩ := o
  cases op with
  | move x =>
    simp only [compOp0, Option.bind_eq_bind, Option.bind_eq_some_iff, Option.some.injEq] at hc
    obtain ⟨y, hy, rfl⟩ := hc
    simp only [evalOp, Option.some.injEq, Prod.mk.injEq] at hev
    obtain ⟨rfl, rfl⟩ := hev
    exact .keep rfl R (hρ _ _ hy)
  | assign x =>
    simp only [compOp0, Option.bind_eq_bind, Option.bind_eq_some_iff, Option.some.injEq] at hc
    obtain ⟨y, hy, rfl⟩ := hc
    simp only [evalOp, Option.some.injEq, Prod.mk.injEq] at hev
    obtain ⟨rfl, rfl⟩ := hev
    exact .keep rfl R (hρ _ _ hy)
  | pick c a b =>
    simp only [compOp0, Option.bind_eq_bind, Option.bind_eq_some_iff, Option.some.injEq] at hc
    obtain ⟨yc, hyc, ya, hya, yb, hyb, rfl⟩ := hc
    simp only [evalOp] at hev
    obtain ⟨hs, rfl⟩ := keepH_some hev
    unfold sel at hs
    split at hs
    · rename_i t ht
      cases hs
      have hcb := hρ _ _ hyc
      rw [ht] at hcb
      have hb := vrel_bool hcb
      cases t with
      | true => exact .keep (r := ρA a) (by simp [execOp, hb, asBool]) R (hρ _ _ hya)
      | false => exact .keep (r := ρA b) (by simp [execOp, hb, asBool]) R (hρ _ _ hyb)
    · cases hs
  | alloc t =>
    simp only [compOp0, Option.bind_eq_bind, Option.bind_eq_some_iff] at hc
    obtain ⟨z, hz, hc⟩ := hc
    split at hc
    · rename_i ho
      cases hc
      simp only [evalOp, Option.some.injEq, Prod.mk.injEq] at hev
      obtain ⟨rfl, rfl⟩ := hev
      exact sim_alloc hz ho R hf
    · cases hc
  | box t x =>
    simp only [compOp0, Option.bind_eq_bind, Option.bind_eq_some_iff, Option.some.injEq] at hc
    obtain ⟨y, hy, rfl⟩ := hc
    simp only [evalOp] at hev
    split at hev
    · rename_i ho
      simp only [Option.some.injEq, Prod.mk.injEq] at hev
      obtain ⟨rfl, rfl⟩ := hev
      exact sim_box (hρ _ _ hy) ho R hf
    · cases hev
  | build t parts =>
    simp only [compOp0, Option.bind_eq_bind, Option.bind_eq_some_iff] at hc
    obtain ⟨z, hz, ps, hp, hc⟩ := hc
    split at hc
    · rename_i fields hu
      simp only [Option.bind_eq_some_iff, Option.some.injEq] at hc
      obtain ⟨pl, hpl, rfl⟩ := hc
      have hfin : Sim P w0 I0 β I w h' fr v (do pure (.value (← Instr.build t (parts.map fun p => (p.1, ρA p.2))))) := sim_build hρ hz hp (.inl ⟨fields, pl, hu, hpl⟩) R hev
      exact hfin
    · rename_i n e hu
      simp only [Option.bind_eq_some_iff, Option.some.injEq] at hc
      obtain ⟨m, hm, rfl⟩ := hc
      have hfin : Sim P w0 I0 β I w h' fr v (do pure (.value (← Instr.build t (parts.map fun p => (p.1, ρA p.2))))) := sim_build hρ hz hp (.inr ⟨n, e, m, hu, hm⟩) R hev
      exact hfin
    · cases hc
  | buildSlice t len parts =>
    simp only [compOp0, Option.bind_eq_bind, Option.bind_eq_some_iff] at hc
    obtain ⟨e, he, esz, hs, z, hz, ps, hp, hc⟩ := hc
    split at hc
    · rename_i hcond
      obtain ⟨c1, c2, c3, c4⟩ := hcond
      cases hc
      simp only [evalOp] at hev
      split at hev
      · rename_i es hfill
        simp only [Option.some.injEq, Prod.mk.injEq] at hev
        obtain ⟨rfl, rfl⟩ := hev
        obtain ⟨hlen, hall⟩ := compSliceParts_ok hp
        have hl : (parts.map fun p => (p.1, ρA p.2)).toList.length = ps.length := by simpa using hlen
        have hr : ∀ (i : Nat) (hi : i < ps.length) (hi' : i < (parts.map fun p => (p.1, ρA p.2)).toList.length), ((parts.map fun p => (p.1, ρA p.2)).toList[i]).1 = (ps[i]).1 ∧
            VRel β I w (ρ (ps[i]).2) ((parts.map fun p => (p.1, ρA p.2)).toList[i]).2 := fun i hi hi' => by
          have hi2 : i < parts.toList.length := by omega
          obtain ⟨h1, h2⟩ := hall i hi hi2
          have : (parts.map fun p => (p.1, ρA p.2)).toList[i] = ((parts.toList[i]).1, ρA (parts.toList[i]).2) := by simp
          rw [this]
          exact ⟨h1, hρ _ _ h2⟩
        have hfin : Sim P w0 I0 β I w (h.put fr (some (.row es))) fr (.sl fr 0 len esz) (do pure (.value (← Instr.buildSlice t len (parts.map fun p => (p.1, ρA p.2))))) :=
          sim_buildSlice he hs hz c1 c2 c4 R hf hl hr hfill
        exact hfin
      · cases hev
    · cases hc
  | insert t m k x => simp [compOp0] at hc
  | load t a =>
    simp only [compOp0, Option.bind_eq_bind, Option.bind_eq_some_iff, Option.some.injEq] at hc
    obtain ⟨n, hn, y, hy, rfl⟩ := hc
    exact .ofValue R hev (fun u hu => load_ok hn R (hρ _ _ hy) hu)
  | store t a x =>
    simp only [compOp0, Option.bind_eq_bind, Option.bind_eq_some_iff, Option.some.injEq] at hc
    obtain ⟨n, hn, y, hy, z, hz, rfl⟩ := hc
    simp only [evalOp, setH] at hev
    split at hev
    · rename_i h2 hs
      simp only [Option.some.injEq, Prod.mk.injEq] at hev
      obtain ⟨rfl, rfl⟩ := hev
      have hfin : Sim P w0 I0 β I w h2 fr .undef (do Instr.storeAt t (ρA a) (ρA x); pure .skip) := sim_store hn R (hρ _ _ hy) (hρ _ _ hz) hs
      exact hfin
    · cases hev
  | nilCheck x =>
    simp only [compOp0, Option.bind_eq_bind, Option.bind_eq_some_iff, Option.some.injEq] at hc
    obtain ⟨y, hy, rfl⟩ := hc
    simp only [evalOp] at hev
    obtain ⟨hs, rfl⟩ := keepH_some hev
    obtain ⟨hp, hv⟩ := notNil_ok (hρ _ _ hy) hs
    obtain ⟨ad, had⟩ := hp
    exact .keep (r := ρA x) (by simp [execOp, had]) R hv
  | binOp op t x y yt =>
    simp only [compOp0] at hc
    split at hc
    · cases hc
    · cases hc
    · rename_i h1 h2
      simp only [Option.bind_eq_bind, Option.bind_eq_some_iff, Option.some.injEq] at hc
      obtain ⟨kd, hk, a, ha, b, hb, rfl⟩ := hc
      exact Sim.ofValue (s := (do eqGuard op t x y (ρA x) (ρA y); binOp op t (ρA x) (ρA y))) R hev (fun u hu => bin_ok ⟨h1, h2⟩ hk (hρ _ _ ha) (hρ _ _ hb) hu)
  | unOp op t x =>
    simp only [compOp0, Option.bind_eq_bind, Option.bind_eq_some_iff, Option.some.injEq] at hc
    obtain ⟨y, hy, rfl⟩ := hc
    exact .ofValue R hev (fun u hu => un_ok (hρ _ _ hy) hu)
  | convert src dst x =>
    simp only [compOp0] at hc
    split at hc
    · rename_i k1 k2 h1 h2
      simp only [Option.bind_eq_bind, Option.bind_eq_some_iff, Option.some.injEq] at hc
      obtain ⟨y, hy, rfl⟩ := hc
      exact .ofValue R hev (fun u hu => conv_ok (hρ _ _ hy) hu (.inl ⟨_, _, rfl, h1, h2⟩))
    · rename_i h1 h2
      simp only [Option.bind_eq_bind, Option.bind_eq_some_iff, Option.some.injEq] at hc
      obtain ⟨y, hy, rfl⟩ := hc
      exact .ofValue R hev (fun u hu => conv_ok (hρ _ _ hy) hu (.inr ⟨rfl, h1, h2⟩))
    · cases hc
  | sliceToArrayPointer => simp [compOp0] at hc
  | makeInterface => simp [compOp0] at hc
  | makeFunc fn first captured =>
    cases fn with
    | func f =>
      simp only [compOp0] at hc
      split at hc
      · rename_i hfirst
        simp only [Option.bind_eq_bind, Option.bind_eq_some_iff, Option.some.injEq] at hc
        obtain ⟨ys, hys, rfl⟩ := hc
        simp only [evalOp, Option.some.injEq, Prod.mk.injEq] at hev
        obtain ⟨rfl, rfl⟩ := hev
        obtain ⟨hl, hall⟩ := compOpnds_ok hys
        have hempty : first.map ρA = #[] := by simpa using hfirst
        refine .keep (r := .func (.func f) (first.map ρA) (captured.map ρA)) (by simp [execOp, Instr.makeFunc]) R ?_
        rw [hempty]
        refine .fn _ _ _ (by simpa using hl) (fun i hi hi' => ?_)
        simp only [List.getElem_map, Array.getElem_map]
        have hi2 : i < captured.toList.length := by simpa using hi'
        have := hall i (by simpa using hi) hi2
        rw [Array.getElem_toList] at this
        exact hρ _ _ this
      · cases hc
    | method => simp [compOp0] at hc
    | methodOf => simp [compOp0] at hc
    | via => simp [compOp0] at hc
    | yield => simp [compOp0] at hc
  | makeMap t r =>
    simp only [compOp0] at hc
    split at hc
    · rename_i kt e hu
      simp only [Option.bind_eq_bind, Option.bind_eq_some_iff, Option.some.injEq] at hc
      obtain ⟨y, hy, rfl⟩ := hc
      simp only [evalOp] at hev
      split at hev
      · rename_i hh
        simp only [Option.some.injEq, Prod.mk.injEq] at hev
        obtain ⟨rfl, rfl⟩ := hev
        refine sim_makeMap R hf ?_
        rcases compOpt_rel hρ hy with ⟨h1, h2⟩ | ⟨a, b, h1, h2, hab⟩
        · simp [execOp, Instr.makeMap, h2]
        · rw [h1] at hh
          simp only [hintOk, Option.isSome_iff_exists] at hh
          obtain ⟨n, hn⟩ := hh
          obtain ⟨k, rfl⟩ := intOf_rel hab hn
          simp [execOp, Instr.makeMap, h2, run_underlying hu, asInt, asIntOf]
      · cases hev
    · cases hc
  | makeChan => simp [compOp0] at hc
  | makeSlice t l c =>
    simp only [compOp0, Option.bind_eq_bind, Option.bind_eq_some_iff] at hc
    obtain ⟨e, he, esz, hs, bytes, hb, z, hz, hc⟩ := hc
    split at hc
    · rename_i hcond
      simp only [Option.bind_eq_some_iff, Option.some.injEq] at hc
      obtain ⟨yl, hyl, yc, hyc, rfl⟩ := hc
      exact sim_makeSlice he hs hb hz hcond.2 R hf (hρ _ _ hyl) (hρ _ _ hyc) hev
    · cases hc
  | slice t x lo hi mx =>
    cases mx with
    | some m => simp [compOp0] at hc
    | none =>
      simp only [compOp0] at hc
      split at hc
      · rename_i hu
        simp only [Option.bind_eq_bind, Option.bind_eq_some_iff, Option.some.injEq] at hc
        obtain ⟨y, hy, l, hl, u, hu', rfl⟩ := hc
        exact .ofValue R hev (fun u hh => slice_ok (.inl ⟨rfl, hu⟩) (hρ _ _ hy) (compOpt_rel hρ hl) (compOpt_rel hρ hu') hh)
      · rename_i e hu
        simp only [Option.bind_eq_bind, Option.bind_eq_some_iff, Option.some.injEq] at hc
        obtain ⟨n, hn, y, hy, l, hl, u, hu', rfl⟩ := hc
        exact .ofValue R hev (fun u hh => slice_ok (.inr ⟨e, n, rfl, hu, hn⟩) (hρ _ _ hy) (compOpt_rel hρ hl) (compOpt_rel hρ hu') hh)
      · rename_i arr hu
        split at hc
        · rename_i n e ha
          simp only [Option.bind_eq_bind, Option.bind_eq_some_iff, Option.some.injEq] at hc
          obtain ⟨m, hm, y, hy, l, hl, u, hu', rfl⟩ := hc
          exact .ofValue R hev (fun u hh => cut_ok (.inl ⟨hu, ha⟩) hm (hρ _ _ hy) (compOpt_rel hρ hl) (compOpt_rel hρ hu') hh)
        · cases hc
      · rename_i n e hu
        simp only [Option.bind_eq_bind, Option.bind_eq_some_iff, Option.some.injEq] at hc
        obtain ⟨m, hm, y, hy, l, hl, u, hu', rfl⟩ := hc
        exact .ofValue R hev (fun u hh => cut_ok (arr := 0) (.inr hu) hm (hρ _ _ hy) (compOpt_rel hρ hl) (compOpt_rel hρ hu') hh)
      · cases hc
  | fieldAddr s x fi =>
    simp only [compOp0, Option.bind_eq_bind, Option.bind_eq_some_iff] at hc
    obtain ⟨f, hff, n, hn, hc⟩ := hc
    split at hc
    · cases hc
    · rename_i h0
      simp only [Option.bind_eq_some_iff, Option.some.injEq] at hc
      obtain ⟨y, hy, rfl⟩ := hc
      exact .ofValue R hev (fun u hu => fieldAddr_ok hff hn h0 (hρ _ _ hy) hu)
  | field s x fi =>
    simp only [compOp0, Option.bind_eq_bind, Option.bind_eq_some_iff, Option.some.injEq] at hc
    obtain ⟨f, hff, n, hn, y, hy, rfl⟩ := hc
    exact .ofValue R hev (fun u hu => field_ok hff hn (hρ _ _ hy) hu)
  | indexAddr t x ix =>
    simp only [compOp0] at hc
    split at hc
    · rename_i len e hu
      simp only [Option.bind_eq_bind, Option.bind_eq_some_iff, Option.some.injEq] at hc
      obtain ⟨n, hn, y, hy, z, hz, rfl⟩ := hc
      exact .ofValue R hev (fun u hh => indexAddr_ok (.inl ⟨len, rfl, hu⟩) hn (hρ _ _ hy) (hρ _ _ hz) hh)
    · rename_i e hu
      simp only [Option.bind_eq_bind, Option.bind_eq_some_iff, Option.some.injEq] at hc
      obtain ⟨n, hn, y, hy, z, hz, rfl⟩ := hc
      exact .ofValue R hev (fun u hh => indexAddr_ok (.inr ⟨rfl, hu⟩) hn (hρ _ _ hy) (hρ _ _ hz) hh)
    · cases hc
  | index t x ix =>
    simp only [compOp0] at hc
    split at hc
    · rename_i len e hu
      simp only [Option.bind_eq_bind, Option.bind_eq_some_iff, Option.some.injEq] at hc
      obtain ⟨n, hn, ag, hag, y, hy, z, hz, rfl⟩ := hc
      exact .ofValue R hev (fun u hh => index_ok (.inl ⟨len, e, n, ag, rfl, hu, hn, hag⟩) (hρ _ _ hy) (hρ _ _ hz) hh)
    · rename_i hu
      simp only [Option.bind_eq_bind, Option.bind_eq_some_iff, Option.some.injEq] at hc
      obtain ⟨y, hy, z, hz, rfl⟩ := hc
      exact .ofValue R hev (fun u hh => index_ok (.inr ⟨rfl, hu⟩) (hρ _ _ hy) (hρ _ _ hz) hh)
    · cases hc
  | lookup t m k ok =>
    simp only [compOp0] at hc
    split at hc
    · rename_i kt e hu
      simp only [Option.bind_eq_bind, Option.bind_eq_some_iff, Option.some.injEq] at hc
      obtain ⟨kk, hk, z, hz, y, hy, yk, hyk, rfl⟩ := hc
      exact .ofValue R hev (fun u hh => lookup_ok hu hk hz R (hρ _ _ hy) (hρ _ _ hyk) hh)
    · cases hc
  | mapUpdate t m k x =>
    simp only [compOp0] at hc
    split at hc
    · rename_i kt e hu
      simp only [Option.bind_eq_bind, Option.bind_eq_some_iff, Option.some.injEq] at hc
      obtain ⟨kk, hk, y, hy, yk, hyk, yx, hyx, rfl⟩ := hc
      simp only [evalOp, setH] at hev
      split at hev
      · rename_i h2 hs
        simp only [Option.some.injEq, Prod.mk.injEq] at hev
        obtain ⟨rfl, rfl⟩ := hev
        have hfin : Sim P w0 I0 β I w h2 fr .undef (do Instr.mapUpdate t (ρA m) (ρA k) (ρA x); pure .skip) := sim_mapUpdate hu hk R (hρ _ _ hy) (hρ _ _ hyk) (hρ _ _ hyx) hs
        exact hfin
      · cases hev
    · cases hc
  | mapEntry => simp [compOp0] at hc
  | entryStore => simp [compOp0] at hc
  | range t x =>
    simp only [compOp0] at hc
    split at hc
    · rename_i hu
      simp only [Option.bind_eq_bind, Option.bind_eq_some_iff, Option.some.injEq] at hc
      obtain ⟨y, hy, rfl⟩ := hc
      exact sim_range hu R hf (hρ _ _ hy) hev
    · cases hc
  | next x str =>
    cases str with
    | true => simp [compOp0] at hc
    | false =>
      simp only [compOp0, Option.bind_eq_bind, Option.bind_eq_some_iff, Option.some.injEq] at hc
      obtain ⟨y, hy, rfl⟩ := hc
      exact sim_next R (hρ _ _ hy) hev
  | entry x =>
    simp only [compOp0, Option.bind_eq_bind, Option.bind_eq_some_iff, Option.some.injEq] at hc
    obtain ⟨y, hy, rfl⟩ := hc
    exact .ofValue R hev (fun u hu => entry_ok R (hρ _ _ hy) hu)
  | typeAssert => simp [compOp0] at hc
  | extract x ix =>
    simp only [compOp0, Option.bind_eq_bind, Option.bind_eq_some_iff, Option.some.injEq] at hc
    obtain ⟨y, hy, rfl⟩ := hc
    exact .ofValue R hev (fun u hu => extract_ok (hρ _ _ hy) hu)
  | call c =>
    obtain ⟨callee, args, argTypes⟩ := c
    simp only [compOp0] at hc
    unfold compCall at hc
    simp only at hc
    cases callee with
    | value f =>
      cases f with
      | func f =>
        exfalso
        simp only [Option.bind_eq_bind, Option.bind_eq_some_iff] at hc
        obtain ⟨fn, _, hc⟩ := hc
        split at hc
        · cases hc
        · simp only [Option.bind_eq_some_iff, Option.some.injEq] at hc
          obtain ⟨ys, _, rfl⟩ := hc
          exact hnc _ _ _ rfl
      | tmp t =>
        exfalso
        simp only [Option.bind_eq_bind, Option.bind_eq_some_iff, Option.some.injEq] at hc
        obtain ⟨ys, _, rfl⟩ := hc
        exact hncv _ _ rfl
      | const => cases hc
      | global => cases hc
    | invoke r m => cases hc
    | builtin b =>
      cases b with
      | max =>
        simp only at hc
        split at hc
        · rename_i x y hx
          simp only [Option.bind_eq_bind, Option.bind_eq_some_iff, Option.some.injEq] at hc
          obtain ⟨x', hx', y', hy', rfl⟩ := hc
          have e1 : args = #[x, y] := by rw [← Array.toArray_toList (xs := args), hx]
          subst e1
          obtain ⟨hl, rfl⟩ := keepH_some hev
          obtain ⟨r, hr, hv⟩ := minmax_ok (P := P) (w := w) (hρ _ _ hx') (hρ _ _ hy') hl
          exact .keep (r := r) (by simp only [if_true] at hr; simp [execOp, resolve, invoke, builtin, Builtin.max_, hr]) R hv
        · cases hc
      | min =>
        simp only at hc
        split at hc
        · rename_i x y hx
          simp only [Option.bind_eq_bind, Option.bind_eq_some_iff, Option.some.injEq] at hc
          obtain ⟨x', hx', y', hy', rfl⟩ := hc
          have e1 : args = #[x, y] := by rw [← Array.toArray_toList (xs := args), hx]
          subst e1
          obtain ⟨hl, rfl⟩ := keepH_some hev
          obtain ⟨r, hr, hv⟩ := minmax_ok (P := P) (w := w) (hρ _ _ hx') (hρ _ _ hy') hl
          exact .keep (r := r) (by simp only [Bool.false_eq_true, if_false] at hr; simp [execOp, resolve, invoke, builtin, Builtin.min_, hr]) R hv
        · cases hc
      | len =>
        simp only at hc
        split at hc
        · rename_i x t hx ht
          simp only [Option.bind_eq_bind, Option.bind_eq_some_iff] at hc
          obtain ⟨y, hy, hc⟩ := hc
          have e1 : args = #[x] := by rw [← Array.toArray_toList (xs := args), hx]
          have e2 : argTypes = #[t] := by rw [← Array.toArray_toList (xs := argTypes), ht]
          subst e1
          subst e2
          have go : ∀ k, d = .len k y → LKTy P t k → Sim P w0 I0 β I w h' fr v (execOp ρA ⟨dst, .call ⟨.builtin .len, #[x], #[t]⟩, type, pos, after, guard⟩) := by
            rintro k rfl hk
            obtain ⟨hl, rfl⟩ := keepH_some hev
            obtain ⟨r, hr, hv⟩ := len_ok (P := P) (ty := type) R (hρ _ _ hy) hl hk
            exact .keep (r := r) (by simp [execOp, resolve, invoke, builtin, hr]) R hv
          split at hc
          · rename_i hu; cases hc; exact go _ rfl hu
          · rename_i e hu; cases hc; exact go _ rfl ⟨e, hu⟩
          · rename_i k e hu; cases hc; exact go _ rfl ⟨k, e, hu⟩
          · rename_i n e hu; cases hc; exact go _ rfl ⟨e, hu⟩
          · cases hc
        · cases hc
      | append =>
        simp only at hc
        split at hc
        · rename_i s x t u hx ht
          simp only [Option.bind_eq_bind, Option.bind_eq_some_iff] at hc
          obtain ⟨e, he, e', he', esz, hs, bytes, hb, z, hz, ys, hys, yx, hyx, hc⟩ := hc
          split at hc
          · rename_i hcond
            cases hc
            have e1 : args = #[s, x] := by rw [← Array.toArray_toList (xs := args), hx]
            have e2 : argTypes = #[t, u] := by rw [← Array.toArray_toList (xs := argTypes), ht]
            subst e1
            subst e2
            obtain ⟨r, w', β', hr, hrest⟩ := sim_append (ty := type) he he' hs hb hz hcond.1 hcond.2.1 R hf (hρ _ _ hys) (hρ _ _ hyx) hev
            refine ⟨r, w', β', ?_, hrest⟩
            rcases hr with hr | ⟨hr, h2⟩
            · left
              simp only [Sem.run_bind] at hr
              cases happ : (Builtin.append_ #[t, u] type #[ρA s, ρA x]).run P w with
              | ok y w1 =>
                rw [happ] at hr
                simp at hr
                obtain ⟨rfl, rfl⟩ := hr
                simp [execOp, resolve, invoke, builtin, happ]
              | halt => rw [happ] at hr; simp [Result.andThen] at hr
            · simp only [Sem.run_bind] at hr
              cases happ : (Builtin.append_ #[t, u] type #[ρA s, ρA x]).run P w with
              | ok y w1 => rw [happ] at hr; simp at hr
              | halt => rw [happ] at hr; simp [Result.andThen] at hr
          · cases hc
        · cases hc
      | _ => cases hc
  | go => simp [compOp0] at hc
  | defer => simp [compOp0] at hc
  | panic => simp [compOp0] at hc
  | send => simp [compOp0] at hc
  | recv => simp [compOp0] at hc
  | select => simp [compOp0] at hc
  | ready => simp [compOp0] at hc
  | waits => simp [compOp0] at hc

theorem op_sim {pure' : Nat → Bool} {o : Oper} {d : DOp} {ρ : DOpnd → V} {ρA : Operand → Value} {v : V} {h' : Heap} (hc : compOp P pure' o.op = some d)
    (hnc : ∀ m f args, d ≠ .call m f args) (hncv : ∀ x args, d ≠ .callv x args) (hρ : ORel β I w ρ ρA) (R : Rel P w0 I0 β I h w) (hf : β fr = none)
    (hev : evalOp d ρ h fr = some (v, h')) : Sim P w0 I0 β I w h' fr v (execOp ρA o) := by
  unfold compOp at hc
  split at hc
  · rename_i d' hd'
    cases hc
    exact op_sim0 hd' hnc hncv hρ R hf hev
  · cases hc
    cases hev

end
end Go.Dv
