/- Each operation of the D machine is what the model's operation does: the rest, and all of them together. No condition. -/
import Derived.Test.YtjnllnigogpagadDvF
namespace Go.Dv

section
variable {P : Program} {w0 : World} {I0 : Nat → Prop} {β : Nat → Option BI} {I : Nat → Prop} {w : World} {h : Heap} {fr : Nat}

theorem bin_ok {op : BinOp} {kd : Kd} {t : TypeId} {x y v : V} {a b : Value} {X Y : Operand} (hsh : op ≠ .shl ∧ op ≠ .shr) (hk : kdTy P t = some kd) (hx : VRel β I w x a) (hy : VRel β I w y b)
    (hv : binV op kd x y = some v) : ∃ r, (do eqGuard op t X Y a b; binOp op t a b : Sem Value).run P w = .ok r w ∧ VRel β I w v r := by
  have fin : ∀ {s : Sem Value}, eqGuard op t X Y a b = pure () → (∃ r, s.run P w = .ok r w ∧ VRel β I w v r) → ∃ r, (do eqGuard op t X Y a b; s : Sem Value).run P w = .ok r w ∧ VRel β I w v r := by
    intro s hg ⟨r, hr, hvr⟩
    exact ⟨r, by rw [hg]; simp [hr], hvr⟩
  unfold binV at hv
  split at hv
  · split at hv
    · split at hv
      · rename_i hkk
        subst hkk
        rw [vrel_int hx, vrel_int hy] at fin ⊢
        exact fin (eqGuard_at_int ..) (intBin hsh hv)
      · cases hv
    · cases hv
  · split at hv
    · rw [vrel_str hx, vrel_str hy] at fin ⊢
      exact fin (eqGuard_at_string ..) (strBin hv)
    · cases hv
  · split at hv
    · rename_i p q
      rw [vrel_bool hx, vrel_bool hy] at fin ⊢
      refine fin (eqGuard_at_bool ..) (eqOp_run hv (fun op' ho => ?_) (fun c hc => ?_))
      · rcases ho with rfl | rfl <;> rfl
      · cases hc
        have hu : P.underlying t = some .bool := by
          unfold kdTy at hk
          split at hk <;> first
            | assumption
            | (cases hk; done)
            | (split at hk <;> first | (cases hk; done) | (cases hf : flatTy P 20 t <;> rw [hf] at hk <;> cases hk))
        exact run_equal_bool (P := P) w t p q hu
    · cases hv
  · rename_i ks
    split at hv
    · rename_i xs ys
      cases hx with
      | agg _ xa hn hvx =>
        cases hy with
        | agg _ ya hn' hvy =>
          split at hv
          · rename_i ta tb hta htb
            split at hv
            · rename_i hkind
              simp only [Bool.and_eq_true] at hkind
              have hfl : flatTy P 20 t = some ks ∧ P.eqGuardType P.depth t = false ∧ aggTy P t = some true := by
                unfold kdTy at hk
                split at hk <;> first
                  | (cases hk; done)
                  | (rename_i hu
                     split at hk
                     · cases hk
                     · rename_i hg
                       cases hf : flatTy P 20 t with
                       | none => rw [hf] at hk; cases hk
                       | some ks' =>
                         rw [hf] at hk; cases hk
                         exact ⟨rfl, by simpa using hg, by simp [aggTy, hu]⟩)
              have h1 := dataCells_rel hta (CRel.ofArray hn hvx)
              have h2 := dataCells_rel htb (CRel.ofArray hn' hvy)
              have he := flat_eq (P := P) (I := I) (w := w) 20 9980 t ks ta tb xa.toList ya.toList true hfl.1 hfl.2.2 hkind.1 hkind.2 h1 h2
              simp only [mkV, if_true, Array.toArray_toList] at he
              have hg := run_eqGuard_agg (P := P) w op t X Y xa ya hfl.2.1
              obtain ⟨r, hr, hvr⟩ := eqOp_run (β := β) (I := I) (t := t) (x := .agg xa) (y := .agg ya) hv (fun op' ho => by rcases ho with rfl | rfl <;> rfl) (fun c hc => by cases hc; exact he)
              exact ⟨r, by simp [hg, hr], hvr⟩
            · cases hv
          · cases hv
    · cases hv
  · have he : ∀ c, eqNil kd x y = some c → (Op.equal t a b).run P w = .ok c w := fun c hc => equal_nil hk hx hy hc
    cases hc : eqNil kd x y with
    | none =>
      rw [hc] at hv
      unfold eqOp at hv
      split at hv <;> first | (cases hv; done) | (rename_i h1 h2; cases h2)
    | some c =>
      rw [hc] at hv
      have h1 := eqNil_some hc
      have hshape : (eqGuard op t X Y a b = pure ()) ∧ ∀ op', op' = BinOp.eql ∨ op' = .neq → binOp op' t a b = (if op' = .eql then (do pure (.bool (← Op.equal t a b))) else (do pure (.bool (!(← Op.equal t a b))))) := by
        have hx' : ∃ c, x.isNil kd = some c := by rcases h1 with ⟨h, _⟩ | ⟨h, _⟩ <;> exact ⟨_, h⟩
        have hy' : ∃ c, y.isNil kd = some c := by rcases h1 with ⟨_, h⟩ | ⟨_, h, _⟩ <;> exact ⟨_, h⟩
        obtain ⟨cx, hx'⟩ := hx'
        obtain ⟨cy, hy'⟩ := hy'
        cases kd with
        | num => rw [isNil_num] at hx'; cases hx'
        | str => rw [isNil_str] at hx'; cases hx'
        | bool => rw [isNil_bool] at hx'; cases hx'
        | agg ks => rw [isNil_agg] at hx'; cases hx'
        | slc =>
          obtain ⟨o, l, k, rfl, _⟩ := nil_slc hx hx'
          obtain ⟨o', l', k', rfl, _⟩ := nil_slc hy hy'
          exact ⟨eqGuard_at_slice .., fun op' ho => by rcases ho with rfl | rfl <;> rfl⟩
        | ptr =>
          obtain ⟨o, rfl, _⟩ := nil_ptr hx hx'
          obtain ⟨o', rfl, _⟩ := nil_ptr hy hy'
          exact ⟨eqGuard_at_pointer .., fun op' ho => by rcases ho with rfl | rfl <;> rfl⟩
        | map =>
          obtain ⟨o, rfl, _⟩ := nil_map hx hx'
          obtain ⟨o', rfl, _⟩ := nil_map hy hy'
          exact ⟨eqGuard_at_map .., fun op' ho => by rcases ho with rfl | rfl <;> rfl⟩
        | fn =>
          rcases nil_fn hx hx' with ⟨_, rfl⟩ | ⟨_, f, p, q, rfl⟩ <;> rcases nil_fn hy hy' with ⟨_, rfl⟩ | ⟨_, f', p', q', rfl⟩ <;>
            exact ⟨by first | exact eqGuard_at_nilFunc .. | exact eqGuard_at_func .., fun op' ho => by rcases ho with rfl | rfl <;> rfl⟩
      exact fin hshape.1 (eqOp_run hv hshape.2 (fun c' hc' => by cases hc'; exact he _ hc))

theorem un_ok {op : UnOp} {x v : V} {a : Value} (hx : VRel β I w x a) (hv : unV op x = some v) : ∃ r, (Op.unary op a).run P w = .ok r w ∧ VRel β I w v r := by
  unfold unV at hv
  split at hv
  · rw [vrel_int hx]
    simp only [intOp, Option.some.injEq] at hv
    subst hv
    exact ⟨_, by simp [Op.unary, Op.intArith], ret_int _ _⟩
  · rw [vrel_int hx]
    simp only [intOp, Option.some.injEq] at hv
    subst hv
    exact ⟨_, by simp [Op.unary, Op.intBits], ret_int _ _⟩
  · rw [vrel_bool hx]
    cases hv
    exact ⟨_, by simp [Op.unary], ret_bool _⟩
  · cases hv

theorem conv_ok {src dst : TypeId} {k : Option IntKind} {x v : V} {a : Value} (hx : VRel β I w x a) (hv : convV k x = some v)
    (hk : (∃ k1 k2, k = some k2 ∧ P.underlying src = some (.int k1) ∧ P.underlying dst = some (.int k2)) ∨ (k = none ∧ P.underlying src = some .string ∧ P.underlying dst = some .string)) :
    ∃ r, (convert src dst a).run P w = .ok r w ∧ VRel β I w v r := by
  unfold convV at hv
  split at hv
  · rw [vrel_int hx]
    cases hv
    rcases hk with ⟨k1, k2, h1, h2, h3⟩ | ⟨h1, _⟩
    · cases h1
      exact ⟨_, by simp [convert, run_underlying h2, run_underlying h3, Conv.intToInt], ret_int _ _⟩
    · cases h1
  · rw [vrel_str hx]
    cases hv
    rcases hk with ⟨k1, k2, h1, h2, h3⟩ | ⟨h1, h2, h3⟩
    · cases h1
    · exact ⟨_, by simp [convert, run_underlying h2, run_underlying h3], ret_str _⟩
  · cases hv

theorem fieldAddr_ok {s : TypeId} {fi : Nat} {f : Field} {n : Nat} {x v : V} {a : Value} (hf : fieldTy P s fi = some f) (hn : szTy P f.type = some n) (h0 : n ≠ 0) (hx : VRel β I w x a)
    (hv : fieldV f.offset x = some v) : ∃ r, (Instr.fieldAt s a fi).run P w = .ok r w ∧ VRel β I w v r := by
  unfold fieldTy at hf
  split at hf
  · rename_i fields hu
    have hplace : ∀ b o, (fieldPlace ⟨b, o, none⟩ f).run P w = .ok ⟨b, o + f.offset, none⟩ w := fun b o => by
      simp [fieldPlace, sizeOf_run hn, h0, addr_add]
    cases hx with
    | ptr b i j bi hb =>
      cases hv
      refine ⟨_, ?_, .ptr b i (j + f.offset) bi hb⟩
      simp [Instr.fieldAt, run_underlying hu, hf, Instr.sureAddr, hplace, Nat.add_assoc]
    | iptr cells j blk o cs ty fr vf hI hb hc hv' =>
      cases hv
      refine ⟨_, ?_, .iptr cells (j + f.offset) blk o cs ty fr vf hI hb hc hv'⟩
      simp [Instr.fieldAt, run_underlying hu, hf, Instr.sureAddr, hplace, Nat.add_assoc]
    | undef => cases hv
    | d => cases hv
    | sl => cases hv
    | map => cases hv
    | fn => cases hv
    | agg => cases hv
    | tup => cases hv
    | yield => cases hv
    | it => cases hv
    | emp => cases hv
    | opq => cases hv
  · cases hf

theorem toNat_lt {n : Int} {len : Nat} (h0 : 0 ≤ n) (h1 : n < len) : n.toNat < len := by omega

theorem indexAddr_ok {t : TypeId} {arr : Option Nat} {e : TypeId} {esz : Nat} {x ix v : V} {a b : Value}
    (ht : (∃ len, arr = some len ∧ P.underlying t = some (.array len e)) ∨ (arr = none ∧ P.underlying t = some (.slice e))) (hs : szTy P e = some esz) (hx : VRel β I w x a) (hi : VRel β I w ix b)
    (hv : indexAddrV arr esz x ix = some v) : ∃ r, (Instr.indexAt t a b).run P w = .ok r w ∧ VRel β I w v r := by
  unfold indexAddrV at hv
  split at hv
  · rename_i n hn
    obtain ⟨k, rfl⟩ := intOf_rel hi hn
    split at hv
    · rename_i len
      rcases ht with ⟨len', e1, hu⟩ | ⟨e1, _⟩
      · cases e1
        split at hv
        · rename_i hb
          cases hx with
          | ptr b i j bi hbi =>
            cases hv
            refine ⟨_, ?_, .ptr b i (j + n.toNat * esz) bi hbi⟩
            simp [Instr.indexAt, asIntOf, run_underlying hu, Instr.sureAddr, hb.1, hb.2, sizeOf_run hs, addr_add, Nat.add_assoc]
          | iptr cells j blk o cs ty fr vf hI hbk hc hv' =>
            cases hv
            refine ⟨_, ?_, .iptr cells (j + n.toNat * esz) blk o cs ty fr vf hI hbk hc hv'⟩
            simp [Instr.indexAt, asIntOf, run_underlying hu, Instr.sureAddr, hb.1, hb.2, sizeOf_run hs, addr_add, Nat.add_assoc]
          | undef => cases hv
          | d => cases hv
          | sl => cases hv
          | map => cases hv
          | fn => cases hv
          | agg => cases hv
          | tup => cases hv
          | yield => cases hv
          | it => cases hv
          | emp => cases hv
          | opq => cases hv
        · cases hv
      · cases e1
    · rcases ht with ⟨len', e1, _⟩ | ⟨_, hu⟩
      · cases e1
      · split at hv
        · rename_i b off len z
          split at hv
          · rename_i hc
            obtain ⟨rfl, h0, h1⟩ := hc
            cases hv
            cases hx with
            | sl _ _ _ _ cap bi ad hbi hz hblk hsp ho hl hr =>
              have hlt := toNat_lt h0 h1
              have hoff := ho (by omega)
              refine ⟨_, ?_, .ptr b (off + n.toNat) 0 bi hbi⟩
              subst hz
              have hadd : ad.add (n.toNat * bi.esz) = ⟨bi.blk, bi.base + (off + n.toNat) * bi.esz + 0, none⟩ := by
                have e1 : bi.base + off * bi.esz + n.toNat * bi.esz = bi.base + (off + n.toNat) * bi.esz + 0 := by rw [Nat.add_mul]; omega
                rw [addr_eta hsp, addr_add, hblk, hoff, e1]
              simp [Instr.indexAt, asIntOf, run_underlying hu, sizeOf_run hs, h0, h1, hadd]
          · cases hv
        · rename_i z es
          split at hv
          · rename_i hc
            obtain ⟨rfl, h0⟩ := hc
            split at hv
            · rename_i cs hcs
              cases hv
              obtain ⟨hlt, rfl⟩ := List.getElem?_eq_some_iff.1 hcs
              cases hx with
              | d _ _ htr =>
                cases htr with
                | lst _ ad len cap _ cv ty fr' vf hlen hsp hI hb hcap hsz hc hv' =>
                  have h1 : n < (len : Int) := by omega
                  refine ⟨_, ?_, .iptr (es[n.toNat]) 0 ad.block (ad.off + n.toNat * z) cv ty fr' (vf n.toNat) hI hb (fun k hk => ?_) (fun k hk => hv' _ k hlt hk)⟩
                  · simp only [Instr.indexAt, asIntOf, Sem.run_bind, Sem.run_pure, Result.andThen_ok, run_underlying hu, sizeOf_run hs, h0, h1, and_self, if_true]
                    congr 3
                    rw [addr_eta hsp, addr_add]
                    rfl
                  · exact hc _ k hlt (by rw [← hsz _ hlt]; exact hk)
            · cases hv
          · cases hv
        · cases hv
  · cases hv

theorem partV_ok {t : TypeId} {n : Option Nat} {cs : List V} {xs : Array Value} {o : Nat} {v : V} (ht : loadTy P t = some n) (hn : xs.size = cs.length)
    (hc : ∀ (i : Nat) (h : i < cs.length) (h' : i < xs.size), VRel β I w cs[i] xs[i]) (hv : partV cs o n = some v) : ∃ r, (part t xs o).run P w = .ok r w ∧ VRel β I w v r := by
  unfold loadTy at ht
  unfold partV at hv
  cases n with
  | none =>
    simp only at hv
    obtain ⟨ho, rfl⟩ := List.getElem?_eq_some_iff.1 hv
    have hagg : aggTy P t = some false := by split at ht <;> simp_all
    exact ⟨xs[o]'(by omega), by simp [part, isAgg_run hagg, show o < xs.size by omega], hc o ho (by omega)⟩
  | some n =>
    simp only at hv
    split at hv
    · rename_i hle
      cases hv
      have hagg : aggTy P t = some true ∧ szTy P t = some n := by split at ht <;> simp_all
      refine ⟨.agg (xs.extract o (o + n)), by simp [part, isAgg_run hagg.1, sizeOf_run hagg.2], .agg _ _ (by simp; omega) (fun i hi hi' => ?_)⟩
      simp only [List.getElem_take, List.getElem_drop, Array.getElem_extract]
      exact hc _ _ _
    · cases hv

theorem field_ok {s : TypeId} {fi : Nat} {f : Field} {n : Option Nat} {x v : V} {a : Value} (hf : fieldTy P s fi = some f) (hn : loadTy P f.type = some n) (hx : VRel β I w x a)
    (hv : fieldOfV f.offset n x = some v) : ∃ r, (Instr.field s a fi).run P w = .ok r w ∧ VRel β I w v r := by
  unfold fieldTy at hf
  split at hf
  · rename_i fields hu
    cases hx with
    | agg cs xs hsz hc =>
      obtain ⟨r, hr, hvr⟩ := partV_ok (P := P) hn hsz hc hv
      exact ⟨r, by simp [Instr.field, run_underlying hu, hf, asAgg, hr], hvr⟩
    | undef => cases hv
    | d => cases hv
    | sl => cases hv
    | map => cases hv
    | fn => cases hv
    | ptr => cases hv
    | iptr => cases hv
    | tup => cases hv
    | yield => cases hv
    | it => cases hv
    | emp => cases hv
    | opq => cases hv
  · cases hf

theorem index_ok {t : TypeId} {arr : Option (Nat × Nat × Bool)} {x ix v : V} {a b : Value}
    (ht : (∃ len e esz ag, arr = some (len, esz, ag) ∧ P.underlying t = some (.array len e) ∧ szTy P e = some esz ∧ aggTy P e = some ag) ∨ (arr = none ∧ P.underlying t = some .string))
    (hx : VRel β I w x a) (hi : VRel β I w ix b) (hv : indexV arr x ix = some v) : ∃ r, (Instr.index t a b).run P w = .ok r w ∧ VRel β I w v r := by
  unfold indexV at hv
  split at hv
  · rename_i n hn
    obtain ⟨k, rfl⟩ := intOf_rel hi hn
    split at hv
    · rename_i len esz ag cs
      rcases ht with ⟨len', e, esz', ag', e1, hu, hs, ha⟩ | ⟨e1, _⟩
      · cases e1
        split at hv
        · rename_i hb
          cases hx with
          | agg _ xs hsz hc =>
            obtain ⟨r, hr, hvr⟩ := partV_ok (P := P) (t := e) (by unfold loadTy; rw [ha, hs]; cases ag <;> rfl) hsz hc hv
            exact ⟨r, by simp [Instr.index, asIntOf, run_underlying hu, hb.1, hb.2, sizeOf_run hs, hr], hvr⟩
        · cases hv
      · cases e1
    · rename_i s
      rcases ht with ⟨len', e, esz', ag', e1, _⟩ | ⟨_, hu⟩
      · cases e1
      · split at hv
        · rename_i h0
          split at hv
          · rename_i c hc
            cases hv
            rw [vrel_str hx]
            exact ⟨_, by simp [Instr.index, asIntOf, run_underlying hu, h0, hc], ret_int _ _⟩
          · cases hv
        · cases hv
    · cases hv
  · cases hv

theorem bound_rel {v : Option V} {x : Option Value} {d n : Nat} (hx : (v = none ∧ x = none) ∨ ∃ a b, v = some a ∧ x = some b ∧ VRel β I w a b) (hv : boundV v d = some n) :
    (v = none ∧ x = none ∧ n = d) ∨ ∃ k, x = some (.int k (n : Int)) := by
  rcases hx with ⟨rfl, rfl⟩ | ⟨a, b, rfl, rfl, hab⟩
  · cases hv; exact .inl ⟨rfl, rfl, rfl⟩
  · unfold boundV at hv
    simp only at hv
    split at hv
    · rename_i m hm
      obtain ⟨k, rfl⟩ := intOf_rel hab hm
      split at hv
      · rename_i h0
        cases hv
        exact .inr ⟨k, by congr 2; omega⟩
      · cases hv
    · cases hv

theorem sliceBounds_run {sl : Bool} {len cap l u : Nat} {lo hi : Option V} {xl xh : Option Value} (hlo : (lo = none ∧ xl = none) ∨ ∃ a b, lo = some a ∧ xl = some b ∧ VRel β I w a b)
    (hhi : (hi = none ∧ xh = none) ∨ ∃ a b, hi = some a ∧ xh = some b ∧ VRel β I w a b) (h1 : boundV lo 0 = some l) (h2 : boundV hi len = some u) (hlu : l ≤ u) (hu : u ≤ cap) :
    (Instr.sliceBounds sl len cap xl xh none).run P w = .ok (l, u, cap) w := by
  rcases bound_rel hlo h1 with ⟨rfl, rfl, rfl⟩ | ⟨k, rfl⟩ <;> rcases bound_rel hhi h2 with ⟨rfl, rfl, rfl⟩ | ⟨k', rfl⟩ <;>
    simp [Instr.sliceBounds, Instr.sliceBound, asIntOf, hlu, hu]

theorem slice_ok {t : TypeId} {esz : Option Nat} {x v : V} {a : Value} {lo hi : Option V} {xl xh : Option Value} (ht : (esz = none ∧ P.underlying t = some .string) ∨ (∃ e n, esz = some n ∧ P.underlying t = some (.slice e) ∧ szTy P e = some n))
    (hx : VRel β I w x a) (hlo : (lo = none ∧ xl = none) ∨ ∃ a b, lo = some a ∧ xl = some b ∧ VRel β I w a b)
    (hhi : (hi = none ∧ xh = none) ∨ ∃ a b, hi = some a ∧ xh = some b ∧ VRel β I w a b) (hv : sliceV esz x lo hi = some v) :
    ∃ r, (Instr.sliceAt t a xl xh none).run P w = .ok r w ∧ VRel β I w v r := by
  have slc : ∀ n, esz = some n → ∃ e, P.underlying t = some (.slice e) ∧ szTy P e = some n := fun n hn => by
    rcases ht with ⟨e, _⟩ | ⟨e, m, h1, h2⟩
    · rw [e] at hn; cases hn
    · rw [h1] at hn; cases hn; exact ⟨e, h2⟩
  unfold sliceV at hv
  split at hv
  · rename_i b off len z
    obtain ⟨e, hu, hs⟩ := slc _ rfl
    split at hv
    · rename_i l u h1 h2
      split at hv
      · rename_i hc
        obtain ⟨rfl, hlu, hul⟩ := hc
        cases hv
        cases hx with
        | sl _ _ _ _ cap bi ad hbi hz hblk hsp ho hl hr =>
          have hb := sliceBounds_run (P := P) (w := w) (sl := true) (cap := cap) hlo hhi h1 h2 hlu (by omega)
          by_cases hcl : cap = l
          · subst hcl
            refine ⟨.slice (some ad) (u - cap) (cap - cap), by simp [Instr.sliceAt, run_underlying hu, Instr.slice, hb, sizeOf_run hs], ?_⟩
            exact .sl b _ _ z _ bi ad hbi hz hblk hsp (fun hne => absurd (by omega) hne) (by omega) (by omega)
          · refine ⟨.slice (some (ad.add (l * z))) (u - l) (cap - l), by simp [Instr.sliceAt, run_underlying hu, Instr.slice, hb, sizeOf_run hs, hcl], ?_⟩
            have hoff := ho (by omega)
            rw [addr_eta hsp, addr_add]
            exact .sl b _ _ z _ bi _ hbi hz hblk rfl (fun _ => by simp only [hoff, hz, Nat.add_mul]; omega) (by omega) (by omega)
      · cases hv
    · cases hv
  · rename_i z es
    obtain ⟨e, hu, hs⟩ := slc _ rfl
    split at hv
    · rename_i l u h1 h2
      split at hv
      · rename_i hc
        obtain ⟨rfl, hlu, hul⟩ := hc
        cases hv
        cases hx with
        | d _ _ htr =>
          cases htr with
          | lst _ ad len cap _ cv ty fr' vf hlen hsp hI hb hcap hsz hcc hv' =>
            subst hlen
            have hbr := sliceBounds_run (P := P) (w := w) (sl := true) (cap := cap) hlo hhi h1 h2 hlu (by omega)
            have hel : ((es.drop l).take (u - l)).length = u - l := by simp; omega
            by_cases hcl : cap = l
            · subst hcl
              refine ⟨.slice (some ad) (u - cap) (cap - cap), by simp [Instr.sliceAt, run_underlying hu, Instr.slice, hbr, sizeOf_run hs], ?_⟩
              have : (es.drop cap).take (u - cap) = [] := List.length_eq_zero_iff.1 (by rw [hel]; omega)
              rw [this]
              exact .d _ _ (.lst [] ad _ _ z cv ty fr' vf (by simp; omega) hsp hI hb (by simp) (fun i hi => absurd hi (by simp)) (fun i j hi => absurd hi (by simp)) (fun i j hi => absurd hi (by simp)))
            · refine ⟨.slice (some (ad.add (l * z))) (u - l) (cap - l), by simp [Instr.sliceAt, run_underlying hu, Instr.slice, hbr, sizeOf_run hs, hcl], ?_⟩
              rw [addr_eta hsp, addr_add]
              refine .d _ _ (.lst _ _ _ _ z cv ty fr' (fun i j => vf (l + i) j) hel.symm rfl hI hb (by omega) (fun i hi => ?_) (fun i j hi hj => ?_) (fun i j hi hj => ?_))
              · simp only [List.getElem_take, List.getElem_drop]; exact hsz _ _
              · have := hcc (l + i) j (by rw [hel] at hi; omega) hj
                rw [← this]; congr 1; dsimp only; rw [Nat.add_mul]; omega
              · simp only [List.getElem_take, List.getElem_drop] at hj ⊢; exact hv' _ j (by rw [hel] at hi; omega) hj
      · cases hv
    · cases hv
  · obtain ⟨e, hu, hs⟩ := slc _ rfl
    split at hv
    · rename_i h1 h2
      cases hv
      cases hx with
      | d _ _ htr =>
        cases htr
        have hbr := sliceBounds_run (P := P) (w := w) (sl := true) (cap := 0) hlo hhi h1 h2 (Nat.le_refl _) (Nat.le_refl _)
        exact ⟨.slice none 0 0, by simp [Instr.sliceAt, run_underlying hu, Instr.slice, hbr, sizeOf_run hs], .d _ _ .nils⟩
    · cases hv
  · rename_i s
    have hu : P.underlying t = some .string := by
      rcases ht with ⟨_, e⟩ | ⟨e, m, h1, _⟩
      · exact e
      · cases h1
    split at hv
    · rename_i l u h1 h2
      split at hv
      · rename_i hc
        cases hv
        rw [vrel_str hx]
        have hbr := sliceBounds_run (P := P) (w := w) (sl := false) (cap := s.size) hlo hhi h1 h2 hc.1 hc.2
        exact ⟨_, by simp [Instr.sliceAt, run_underlying hu, Instr.slice, hbr], ret_str _⟩
      · cases hv
    · cases hv
  · cases hv

theorem minmax_ok {mx : Bool} {x y v : V} {a b : Value} (hx : VRel β I w x a) (hy : VRel β I w y b) (hv : minmaxV mx x y = some v) :
    ∃ r, (if mx = true then Builtin.max2 a b else Builtin.min2 a b).run P w = .ok r w ∧ VRel β I w v r := by
  unfold minmaxV at hv
  split at hv
  · cases hv
    cases hx with
    | d _ _ hx =>
      cases hx
      cases hy with
      | d _ _ hy =>
        cases hy
        cases mx
        · exact ⟨_, by simp [Builtin.min2], .d _ _ (.int _ _)⟩
        · exact ⟨_, by simp [Builtin.max2], .d _ _ (.int _ _)⟩
  · cases hv

theorem extract_ok {x v : V} {a : Value} {ix : Nat} (hx : VRel β I w x a) (hv : extractV ix x = some v) : ∃ r, (Instr.extract a ix).run P w = .ok r w ∧ VRel β I w v r := by
  cases hx with
  | tup cs xs hn hc =>
    simp only [extractV] at hv
    obtain ⟨hi, rfl⟩ := List.getElem?_eq_some_iff.1 hv
    exact ⟨xs[ix]'(by omega), by simp [Instr.extract, show ix < xs.size by omega], hc ix hi (by omega)⟩
  | undef => cases hv
  | d => cases hv
  | sl => cases hv
  | map => cases hv
  | fn => cases hv
  | ptr => cases hv
  | iptr => cases hv
  | agg => cases hv
  | yield => cases hv
  | it => cases hv
  | emp => cases hv
  | opq => cases hv

def LKTy (P : Program) (t : TypeId) : LK → Prop
  | .arr n => ∃ e, P.underlying t = some (.array n e)
  | .str => P.underlying t = some .string
  | .slc => ∃ e, P.underlying t = some (.slice e)
  | .map => ∃ k e, P.underlying t = some (.map k e)

theorem cut_ok {t arr e : TypeId} {n m : Nat} {x v : V} {a : Value} {lo hi : Option V} {xl xh : Option Value} (ht : (P.underlying t = some (.pointer arr) ∧ P.underlying arr = some (.array n e)) ∨ P.underlying t = some (.array n e)) (hs : szTy P e = some m)
    (hx : VRel β I w x a) (hlo : (lo = none ∧ xl = none) ∨ ∃ a b, lo = some a ∧ xl = some b ∧ VRel β I w a b)
    (hhi : (hi = none ∧ xh = none) ∨ ∃ a b, hi = some a ∧ xh = some b ∧ VRel β I w a b) (hv : cutV n x lo hi = some v) :
    ∃ r, (Instr.sliceAt t a xl xh none).run P w = .ok r w ∧ VRel β I w v r := by
  have go : ∀ ad : Addr, (Instr.sliceBounds false n n xl xh none).run P w = .ok (0, 0, n) w → (Instr.sliceAt t (.pointer (some ad)) xl xh none).run P w = .ok (.slice (some (if n = 0 then ad else ad.add (0 * m))) 0 n) w := by
    intro ad hb
    rcases ht with ⟨ht, ha⟩ | ht
    · simp [Instr.sliceAt, run_underlying ht, run_underlying ha, Instr.slice, asAddr, hb, sizeOf_run hs]
    · simp [Instr.sliceAt, run_underlying ht, Instr.sureAddr, hb, sizeOf_run hs]
  unfold cutV at hv
  split at hv
  · rename_i h1 h2
    cases hv
    have hb := sliceBounds_run (P := P) (w := w) (sl := false) (len := n) (cap := n) hlo hhi h1 h2 (Nat.le_refl _) (Nat.zero_le _)
    cases hx with
    | ptr b i j bi hbi => exact ⟨_, go _ hb, .emp _ _⟩
  · rename_i h1 h2
    cases hv
    have hb := sliceBounds_run (P := P) (w := w) (sl := false) (len := n) (cap := n) hlo hhi h1 h2 (Nat.le_refl _) (Nat.zero_le _)
    cases hx with
    | iptr cells j blk o cs ty fr vf hI hbk hc hv' => exact ⟨_, go _ hb, .emp _ _⟩
  · cases hv

theorem len_ok {t ty : TypeId} {k : LK} {x v : V} {a : Value} (R : Rel P w0 I0 β I h w) (hx : VRel β I w x a) (hv : lenV h k x = some v) (ht : LKTy P t k) :
    ∃ r, (Builtin.len_ #[t] ty #[a]).run P w = .ok r w ∧ VRel β I w v r := by
  unfold lenV at hv
  split at hv
  · obtain ⟨e, hu⟩ := ht
    cases hv
    exact ⟨_, by simp [Builtin.len_, run_underlying hu, goInt], ret_int _ _⟩
  · have hu : P.underlying t = some .string := ht
    cases hv
    rw [vrel_str hx]
    exact ⟨_, by simp [Builtin.len_, run_underlying hu, goInt], ret_int _ _⟩
  · obtain ⟨e, hu⟩ := ht
    cases hv
    cases hx with | d _ _ htr => cases htr; exact ⟨_, by simp [Builtin.len_, run_underlying hu, goInt], ret_int _ _⟩
  · obtain ⟨e, hu⟩ := ht
    cases hv
    cases hx with
    | d _ _ htr =>
      cases htr with
      | lst _ ad len cap _ cv ty fr' vf hlen hsp hI hb hcap hsz hcc hv' =>
        subst hlen
        exact ⟨_, by simp [Builtin.len_, run_underlying hu, goInt], ret_int _ _⟩
  · obtain ⟨e, hu⟩ := ht
    cases hv
    cases hx
    exact ⟨_, by simp [Builtin.len_, run_underlying hu, goInt], ret_int _ _⟩
  · obtain ⟨e, hu⟩ := ht
    cases hv
    cases hx
    exact ⟨_, by simp [Builtin.len_, run_underlying hu, goInt], ret_int _ _⟩
  · obtain ⟨k, e, hu⟩ := ht
    cases hv
    cases hx with | d _ _ htr => cases htr; exact ⟨_, by simp [Builtin.len_, run_underlying hu, goInt], ret_int _ _⟩
  · obtain ⟨k, e, hu⟩ := ht
    cases hv
    cases hx with
    | d _ _ htr =>
      cases htr with
      | imap _ r ents clock kf xf hI hb hn hk hkv hx hxv =>
        refine ⟨_, ?_, ret_int _ _⟩
        have hg : (getObj r).run P w = .ok (.map ents clock) w := by simp [getObj, Sem.run, hb]
        simp [Builtin.len_, run_underlying hu, goInt, hg, hn]
  · obtain ⟨k, e, hu⟩ := ht
    split at hv
    · rename_i kvs hh
      cases hv
      cases hx with
      | map _ bi hbi =>
        obtain ⟨bi', hbi', hrel⟩ := R.live _ _ hh
        rw [hbi] at hbi'; cases hbi'
        obtain ⟨ents, clock, h1, h2, _⟩ := hrel
        refine ⟨_, ?_, ret_int _ _⟩
        have hg : (getObj bi.blk).run P w = .ok (.map ents clock) w := by simp [getObj, Sem.run, h1]
        simp [Builtin.len_, run_underlying hu, goInt, hg, h2]
    · cases hv
  · cases hv

theorem notNil_ok {x v : V} {a : Value} (hx : VRel β I w x a) (hv : notNil x = some v) : (∃ ad, a = .pointer (some ad)) ∧ VRel β I w v a := by
  cases hx with
  | ptr b i j bi hb => cases hv; exact ⟨⟨_, rfl⟩, .ptr b i j bi hb⟩
  | iptr cells j blk o cs ty fr vf hI hb hc hv' => cases hv; exact ⟨⟨_, rfl⟩, .iptr cells j blk o cs ty fr vf hI hb hc hv'⟩
  | undef => cases hv
  | d => cases hv
  | sl => cases hv
  | map => cases hv
  | fn => cases hv
  | agg => cases hv
  | tup => cases hv
  | yield => cases hv
  | it => cases hv
  | emp => cases hv
  | opq => cases hv

end
end Go.Dv
