/- Each operation of the D machine is what the model's operation does: numbers, fields, indexes, equality, maps, structs that are built. No condition. -/
import Derived.Test.YtjnllnigogpagadDvE
namespace Go.Dv

section
variable {P : Program} {w0 : World} {I0 : Nat → Prop} {β : Nat → Option BI} {I : Nat → Prop} {w : World} {h : Heap} {fr : Nat}

/-! ### Inversions -/

theorem vrel_int {k : IntKind} {n : Int} {x : Value} (hx : VRel β I w (.d (.int k n)) x) : x = .int k n := by
  cases hx with | d _ _ ht => cases ht; rfl
theorem vrel_bool {b : Bool} {x : Value} (hx : VRel β I w (.d (.bool b)) x) : x = .bool b := by
  cases hx with | d _ _ ht => cases ht; rfl
theorem vrel_str {s : ByteArray} {x : Value} (hx : VRel β I w (.d (.str s)) x) : x = .string s := by
  cases hx with | d _ _ ht => cases ht; rfl

theorem ret_int (k : IntKind) (n : Int) : VRel β I w (.d (.int k n)) (.int k n) := .d _ _ (.int k n)
theorem ret_bool (b : Bool) : VRel β I w (.bool b) (.bool b) := .d _ _ (.bool b)
theorem ret_str (s : ByteArray) : VRel β I w (.d (.str s)) (.string s) := .d _ _ (.str s)

theorem intOf_rel {v : V} {x : Value} {n : Int} (hx : VRel β I w v x) (hn : intOf? v = some n) : ∃ k, x = .int k n := by
  unfold intOf? at hn
  split at hn
  · cases hn; exact ⟨_, vrel_int hx⟩
  · cases hn

/-! ### Numbers, strings, bools -/

theorem intBin {op : BinOp} {k : IntKind} {a b : Int} {v : V} {t : TypeId} (hsh : op ≠ .shl ∧ op ≠ .shr) (hv : intOp op k a b = some v) :
    ∃ r, (binOp op t (.int k a) (.int k b)).run P w = .ok r w ∧ VRel β I w v r := by
  cases op <;> simp only [intOp] at hv
  case add => cases hv; exact ⟨_, by simp [binOp, Op.intArith], ret_int _ _⟩
  case sub => cases hv; exact ⟨_, by simp [binOp, Op.intArith], ret_int _ _⟩
  case mul => cases hv; exact ⟨_, by simp [binOp, Op.intArith], ret_int _ _⟩
  case quo => split at hv; · cases hv
              · rename_i h0; cases hv; exact ⟨_, by simp [binOp, Op.intDiv, h0], ret_int _ _⟩
  case rem => split at hv; · cases hv
              · rename_i h0; cases hv; exact ⟨_, by simp [binOp, Op.intDiv, h0], ret_int _ _⟩
  case and => cases hv; exact ⟨_, by simp [binOp, Op.intBits], ret_int _ _⟩
  case or => cases hv; exact ⟨_, by simp [binOp, Op.intBits], ret_int _ _⟩
  case xor => cases hv; exact ⟨_, by simp [binOp, Op.intBits], ret_int _ _⟩
  case andNot => cases hv; exact ⟨_, by simp [binOp, Op.intBits], ret_int _ _⟩
  case eql => cases hv; exact ⟨_, by simp [binOp, Op.intCmp], ret_bool _⟩
  case neq => cases hv; exact ⟨_, by simp [binOp, Op.intCmp], ret_bool _⟩
  case lss => cases hv; exact ⟨_, by simp [binOp, Op.intCmp], ret_bool _⟩
  case leq => cases hv; exact ⟨_, by simp [binOp, Op.intCmp], ret_bool _⟩
  case gtr => cases hv; exact ⟨_, by simp [binOp, Op.intCmp], ret_bool _⟩
  case geq => cases hv; exact ⟨_, by simp [binOp, Op.intCmp], ret_bool _⟩
  case shl => cases hv
  case shr => cases hv

theorem strBin {op : BinOp} {a b : ByteArray} {v : V} {t : TypeId} (hv : strOp op a b = some v) :
    ∃ r, (binOp op t (.string a) (.string b)).run P w = .ok r w ∧ VRel β I w v r := by
  unfold strOp at hv
  split at hv
  · split at hv
    · cases hv
    · rename_i h0
      cases hv
      exact ⟨_, by simp only [binOp, Op.stringOp]; rw [if_neg h0]; rfl, ret_str _⟩
  · cases hv; exact ⟨_, by simp [binOp, Op.stringOp], ret_bool _⟩
  · cases hv; exact ⟨_, by simp [binOp, Op.stringOp], ret_bool _⟩
  · cases hv; exact ⟨_, by simp [binOp, Op.stringOp], ret_bool _⟩
  · cases hv

theorem eqOp_run {op : BinOp} {r : Option Bool} {v : V} {t : TypeId} {x y : Value} (hv : eqOp op r = some v)
    (hb : ∀ op', op' = .eql ∨ op' = .neq → binOp op' t x y = (if op' = .eql then (do pure (.bool (← Op.equal t x y))) else (do pure (.bool (!(← Op.equal t x y))))))
    (he : ∀ b, r = some b → (Op.equal t x y).run P w = .ok b w) : ∃ u, (binOp op t x y).run P w = .ok u w ∧ VRel β I w v u := by
  unfold eqOp at hv
  split at hv
  · cases hv
    refine ⟨_, ?_, ret_bool _⟩
    rw [hb _ (.inl rfl)]
    simp [he _ rfl]
  · cases hv
    refine ⟨_, ?_, ret_bool _⟩
    rw [hb _ (.inr rfl)]
    simp [he _ rfl]
  · cases hv

theorem nil_slc {v : V} {x : Value} {c : Bool} (hx : VRel β I w v x) (hn : v.isNil .slc = some c) : ∃ o l k, x = .slice o l k ∧ o.isNone = c := by
  unfold V.isNil at hn
  split at hn <;> cases hn
  all_goals (try (rename_i heq; cases heq))
  · cases hx with | d _ _ ht => cases ht; exact ⟨_, _, _, rfl, rfl⟩
  · cases hx with | d _ _ ht => cases ht; exact ⟨_, _, _, rfl, rfl⟩
  · cases hx; exact ⟨_, _, _, rfl, rfl⟩

theorem nil_ptr {v : V} {x : Value} {c : Bool} (hx : VRel β I w v x) (hn : v.isNil .ptr = some c) : ∃ o, x = .pointer o ∧ o.isNone = c := by
  unfold V.isNil at hn
  split at hn <;> cases hn
  all_goals (try (rename_i heq; cases heq))
  · cases hx with | d _ _ ht => cases ht; exact ⟨_, rfl, rfl⟩
  · cases hx; exact ⟨_, rfl, rfl⟩
  · cases hx; exact ⟨_, rfl, rfl⟩

theorem nil_map {v : V} {x : Value} {c : Bool} (hx : VRel β I w v x) (hn : v.isNil .map = some c) : ∃ o, x = .map o ∧ o.isNone = c := by
  unfold V.isNil at hn
  split at hn <;> cases hn
  all_goals (try (rename_i heq; cases heq))
  · cases hx with | d _ _ ht => cases ht; exact ⟨_, rfl, rfl⟩
  · cases hx with | d _ _ ht => cases ht; exact ⟨_, rfl, rfl⟩
  · cases hx; exact ⟨_, rfl, rfl⟩

theorem nil_fn {v : V} {x : Value} {c : Bool} (hx : VRel β I w v x) (hn : v.isNil .fn = some c) : (c = true ∧ x = .nilFunc) ∨ (c = false ∧ ∃ f a b, x = .func f a b) := by
  unfold V.isNil at hn
  split at hn <;> cases hn
  all_goals (try (rename_i heq; cases heq))
  · cases hx with | d _ _ ht => cases ht; exact .inl ⟨rfl, rfl⟩
  · cases hx; exact .inr ⟨rfl, _, _, _, rfl⟩

theorem eqNil_some {kd : Kd} {x y : V} {b : Bool} (he : eqNil kd x y = some b) :
    (x.isNil kd = some true ∧ y.isNil kd = some b) ∨ (x.isNil kd = some false ∧ y.isNil kd = some true ∧ b = false) := by
  unfold eqNil at he
  split at he
  · rename_i h1 h2; cases he; exact .inl ⟨h1, h2⟩
  · rename_i h1 h2; cases he; exact .inr ⟨h1, h2, rfl⟩
  · cases he

theorem isNil_num (v : V) : v.isNil .num = none := by
  cases v with
  | d t => cases t <;> rfl
  | _ => rfl
theorem isNil_str (v : V) : v.isNil .str = none := by
  cases v with
  | d t => cases t <;> rfl
  | _ => rfl
theorem isNil_bool (v : V) : v.isNil .bool = none := by
  cases v with
  | d t => cases t <;> rfl
  | _ => rfl
theorem isNil_agg (ks : List SK) (v : V) : v.isNil (.agg ks) = none := by
  cases v with
  | d t => cases t <;> rfl
  | _ => rfl

theorem eqN_slc (d : Nat) {t e : TypeId} (hu : P.underlying t = some (.slice e)) (l k l' k' : Nat) (o : Option Addr) :
    (Op.equalIn (d + 1) t (.slice none l k) (.slice o l' k')).run P w = .ok o.isNone w := by
  simp [Op.equalIn, run_underlying hu]
theorem eqN_slc' (d : Nat) {t e : TypeId} (hu : P.underlying t = some (.slice e)) (l k l' k' : Nat) (a : Addr) :
    (Op.equalIn (d + 1) t (.slice (some a) l k) (.slice none l' k')).run P w = .ok false w := by
  simp [Op.equalIn, run_underlying hu]
theorem eqN_ptr (d : Nat) {t e : TypeId} (hu : P.underlying t = some (.pointer e)) (o : Option Addr) :
    (Op.equalIn (d + 1) t (.pointer none) (.pointer o)).run P w = .ok o.isNone w := by
  simp [Op.equalIn, run_underlying hu]
theorem eqN_ptr' (d : Nat) {t e : TypeId} (hu : P.underlying t = some (.pointer e)) (a : Addr) :
    (Op.equalIn (d + 1) t (.pointer (some a)) (.pointer none)).run P w = .ok false w := by
  simp [Op.equalIn, run_underlying hu]
theorem eqN_map (d : Nat) {t k e : TypeId} (hu : P.underlying t = some (.map k e)) (o : Option Nat) :
    (Op.equalIn (d + 1) t (.map none) (.map o)).run P w = .ok o.isNone w := by
  simp [Op.equalIn, run_underlying hu]
theorem eqN_map' (d : Nat) {t k e : TypeId} (hu : P.underlying t = some (.map k e)) (a : Nat) :
    (Op.equalIn (d + 1) t (.map (some a)) (.map none)).run P w = .ok false w := by
  simp [Op.equalIn, run_underlying hu]
theorem eqN_fn (d : Nat) {t : TypeId} {ps rs : Array TypeId} {v : Bool} (hu : P.underlying t = some (.func ps rs v)) :
    (Op.equalIn (d + 1) t .nilFunc .nilFunc).run P w = .ok true w := by
  simp [Op.equalIn, run_underlying hu]
theorem eqN_fn' (d : Nat) {t : TypeId} {ps rs : Array TypeId} {v : Bool} (hu : P.underlying t = some (.func ps rs v)) (f : Fn) (a b : Array Value) :
    (Op.equalIn (d + 1) t .nilFunc (.func f a b)).run P w = .ok false w := by
  simp [Op.equalIn, run_underlying hu]
theorem eqN_fn'' (d : Nat) {t : TypeId} {ps rs : Array TypeId} {v : Bool} (hu : P.underlying t = some (.func ps rs v)) (f : Fn) (a b : Array Value) :
    (Op.equalIn (d + 1) t (.func f a b) .nilFunc).run P w = .ok false w := by
  simp [Op.equalIn, run_underlying hu]

theorem equal_nil {kd : Kd} {x y : V} {a b : Value} {c : Bool} {t : TypeId} (hk : kdTy P t = some kd) (hx : VRel β I w x a) (hy : VRel β I w y b) (he : eqNil kd x y = some c) :
    (Op.equal t a b).run P w = .ok c w := by
  show (Op.equalIn (9999 + 1) t a b).run P w = .ok c w
  generalize 9999 = d
  have h1 := eqNil_some he
  unfold kdTy at hk
  split at hk <;> try (cases hk; done)
  · cases hk; rcases h1 with ⟨h, _⟩ | ⟨h, _⟩ <;> simp [isNil_num] at h
  · cases hk; rcases h1 with ⟨h, _⟩ | ⟨h, _⟩ <;> simp [isNil_str] at h
  · cases hk; rcases h1 with ⟨h, _⟩ | ⟨h, _⟩ <;> simp [isNil_bool] at h
  · rename_i hu
    cases hk
    rcases h1 with ⟨h, h'⟩ | ⟨h, h', rfl⟩
    · obtain ⟨o, l, k, rfl, ho⟩ := nil_slc hx h
      obtain ⟨o', l', k', rfl, rfl⟩ := nil_slc hy h'
      have : o = none := by simpa using ho
      subst this
      exact eqN_slc d hu _ _ _ _ _
    · obtain ⟨o, l, k, rfl, ho⟩ := nil_slc hx h
      obtain ⟨o', l', k', rfl, ho'⟩ := nil_slc hy h'
      have : o' = none := by simpa using ho'
      subst this
      cases o with
      | none => cases ho
      | some o => exact eqN_slc' d hu _ _ _ _ _
  · rename_i hu
    cases hk
    rcases h1 with ⟨h, h'⟩ | ⟨h, h', rfl⟩
    · obtain ⟨o, rfl, ho⟩ := nil_ptr hx h
      obtain ⟨o', rfl, rfl⟩ := nil_ptr hy h'
      have : o = none := by simpa using ho
      subst this
      exact eqN_ptr d hu _
    · obtain ⟨o, rfl, ho⟩ := nil_ptr hx h
      obtain ⟨o', rfl, ho'⟩ := nil_ptr hy h'
      have : o' = none := by simpa using ho'
      subst this
      cases o with
      | none => cases ho
      | some o => exact eqN_ptr' d hu _
  · rename_i hu
    cases hk
    rcases h1 with ⟨h, h'⟩ | ⟨h, h', rfl⟩
    · obtain ⟨o, rfl, ho⟩ := nil_map hx h
      obtain ⟨o', rfl, rfl⟩ := nil_map hy h'
      have : o = none := by simpa using ho
      subst this
      exact eqN_map d hu _
    · obtain ⟨o, rfl, ho⟩ := nil_map hx h
      obtain ⟨o', rfl, ho'⟩ := nil_map hy h'
      have : o' = none := by simpa using ho'
      subst this
      cases o with
      | none => cases ho
      | some o => exact eqN_map' d hu _
  · rename_i hu
    cases hk
    rcases h1 with ⟨h, h'⟩ | ⟨h, h', rfl⟩
    · rcases nil_fn hx h with ⟨_, rfl⟩ | ⟨e, _⟩
      · rcases nil_fn hy h' with ⟨rfl, rfl⟩ | ⟨rfl, f, p, q, rfl⟩
        · exact eqN_fn d hu
        · exact eqN_fn' d hu _ _ _
      · cases e
    · rcases nil_fn hx h with ⟨e, _⟩ | ⟨_, f, p, q, rfl⟩
      · cases e
      · rcases nil_fn hy h' with ⟨_, rfl⟩ | ⟨e, _⟩
        · exact eqN_fn'' d hu _ _ _
        · cases e
  · split at hk
    · cases hk
    · cases hf : flatTy P 20 t with
      | none => rw [hf] at hk; cases hk
      | some ks =>
        rw [hf] at hk; cases hk
        rcases h1 with ⟨h, _⟩ | ⟨h, _⟩ <;> simp [isNil_agg] at h
  · split at hk
    · cases hk
    · cases hf : flatTy P 20 t with
      | none => rw [hf] at hk; cases hk
      | some ks =>
        rw [hf] at hk; cases hk
        rcases h1 with ⟨h, _⟩ | ⟨h, _⟩ <;> simp [isNil_agg] at h

/-! ### The equality of cells -/

theorem TCells.cons_inv {t : T} {ts : List T} {xs : List Value} (hc : TCells I w (t :: ts) xs) : ∃ x ys, xs = x :: ys ∧ TRel I w t x ∧ TCells I w ts ys := by
  cases xs with
  | nil => have := hc.1; simp at this
  | cons x ys =>
    exact ⟨x, ys, rfl, hc.2 0 (by simp) (by simp), by have := hc.1; simpa using this, fun i hi hi' => by
      have := hc.2 (i + 1) (by simpa using hi) (by simpa using hi')
      simpa using this⟩

theorem dataCells_rel : ∀ {vs : List V} {ts : List T} {xs : List Value}, dataCells vs = some ts → CRel β I w vs xs → TCells I w ts xs
  | [], ts, xs, hd, hc => by
    cases hd
    exact ⟨by simpa using hc.1, fun i hi => absurd hi (by simp)⟩
  | v :: vs, ts, xs, hd, hc => by
    unfold dataCells at hd
    cases v with
    | d t =>
      simp only [V.data?] at hd
      cases hr : dataCells vs with
      | none => rw [hr] at hd; cases hd
      | some r =>
        rw [hr] at hd
        cases hd
        cases xs with
        | nil => have := hc.1; simp at this
        | cons x ys =>
          have h0 := hc.2 0 (by simp) (by simp)
          have hrest : CRel β I w vs ys := ⟨by have := hc.1; simpa using this, fun i hi hi' => by
            have := hc.2 (i + 1) (by simpa using hi) (by simpa using hi')
            simpa using this⟩
          have ih := dataCells_rel hr hrest
          refine ⟨by simp [ih.1], fun i hi hi' => ?_⟩
          cases i with
          | zero => simp only [List.getElem_cons_zero] at h0 ⊢; cases h0 with | d _ _ ht => exact ht
          | succ i => simpa using ih.2 i (by simpa using hi) (by simpa using hi')
    | undef => cases hd
    | ptr => cases hd
    | iptr => cases hd
    | sl => cases hd
    | map => cases hd
    | fn => cases hd
    | agg => cases hd
    | tup => cases hd
    | yield => cases hd
    | it => cases hd
    | emp => cases hd
    | opq => cases hd

theorem kindsOk_len : ∀ {ks : List SK} {ts : List T}, kindsOk ks ts = true → ts.length = ks.length
  | [], [], _ => rfl
  | [], _ :: _, h => by cases h
  | _ :: _, [], h => by cases h
  | k :: ks, t :: ts, h => by
    simp only [kindsOk, Bool.and_eq_true] at h
    simp [kindsOk_len h.2]

theorem kindsOk_append : ∀ {ks ks' : List SK} {ts : List T}, kindsOk (ks ++ ks') ts = true → kindsOk ks (ts.take ks.length) = true ∧ kindsOk ks' (ts.drop ks.length) = true
  | [], ks', ts, h => ⟨by simp [kindsOk], by simpa using h⟩
  | k :: ks, ks', [], h => by cases h
  | k :: ks, ks', t :: ts, h => by
    simp only [List.cons_append, kindsOk, Bool.and_eq_true] at h
    have ih := kindsOk_append h.2
    simp [kindsOk, h.1, ih.1, ih.2]

theorem sameCells_append : ∀ {a b : List T} (n : Nat), a.length = b.length → sameCells a b = (sameCells (a.take n) (b.take n) && sameCells (a.drop n) (b.drop n))
  | [], [], n, _ => by simp [sameCells]
  | [], _ :: _, n, h => by simp at h
  | _ :: _, [], n, h => by simp at h
  | x :: a, y :: b, 0, h => by simp [sameCells]
  | x :: a, y :: b, n + 1, h => by
    simp only [sameCells, List.take_succ_cons, List.drop_succ_cons]
    rw [sameCells_append n (by simpa using h), Bool.and_assoc]

theorem flat_agg {d : Nat} {t : TypeId} {ks : List SK} (hf : flatTy P d t = some ks) : ∃ ag, aggTy P t = some ag ∧ (ag = false → ks.length = 1) := by
  cases d with
  | zero => cases hf
  | succ d =>
    simp only [flatTy] at hf
    split at hf
    · rename_i hu; cases hf; exact ⟨false, by simp [aggTy, hu], fun _ => rfl⟩
    · rename_i hu; cases hf; exact ⟨false, by simp [aggTy, hu], fun _ => rfl⟩
    · rename_i hu; cases hf; exact ⟨false, by simp [aggTy, hu], fun _ => rfl⟩
    · rename_i hu; exact ⟨true, by simp [aggTy, hu], fun e => by cases e⟩
    · rename_i hu; exact ⟨true, by simp [aggTy, hu], fun e => by cases e⟩
    · cases hf

theorem TCells.slice {ts : List T} {xs : List Value} (hc : TCells I w ts xs) (o n : Nat) : TCells I w ((ts.drop o).take n) ((xs.drop o).take n) :=
  ⟨by simp [hc.1], fun i hi hi' => by
    have h1 : o + i < ts.length := by simp at hi; omega
    have := hc.2 (o + i) h1 (by rw [hc.1]; exact h1)
    simpa using this⟩

theorem part_run {t : TypeId} {ag : Bool} {n o : Nat} {xs : List Value} (ha : aggTy P t = some ag) (hs : szTy P t = some n) (hn : ag = false → n = 1) (hle : o + n ≤ xs.length) :
    (part t xs.toArray o).run P w = .ok (mkV ag ((xs.drop o).take n)) w := by
  cases ag with
  | true =>
    simp only [part, Sem.run_bind, isAgg_run ha, Result.andThen_ok, if_true, sizeOf_run hs, Sem.run_pure, mkV]
    congr 2
    apply Array.ext'
    simp [List.take_drop, Nat.add_comm]
  | false =>
    have : n = 1 := hn rfl
    subst this
    have ho : o < xs.length := by omega
    have : (xs.drop o).take 1 = [xs[o]] := by
      rw [List.drop_eq_getElem_cons ho]; rfl
    simp [part, isAgg_run ha, mkV, this, ho]

def SKTy (P : Program) (t : TypeId) : SK → Prop
  | .bool => P.underlying t = some .bool
  | .int k => P.underlying t = some (.int k)
  | .str => P.underlying t = some .string

theorem scalar_eq {t : TypeId} {d : Nat} {k : SK} {a b : T} {x y : Value} (hu : SKTy P t k)
    (ha : k.ok a = true) (hb : k.ok b = true) (hx : TRel I w a x) (hy : TRel I w b y) : (Op.equalIn (d + 1) t x y).run P w = .ok (T.same a b) w := by
  cases k with
  | bool =>
    cases a <;> simp only [SK.ok] at ha <;> try (cases ha; done)
    cases b <;> simp only [SK.ok] at hb <;> try (cases hb; done)
    cases hx; cases hy
    simpa [T.same] using run_equalIn_bool (P := P) w d t _ _ hu
  | int k =>
    cases a <;> simp only [SK.ok] at ha <;> try (cases ha; done)
    cases b <;> simp only [SK.ok] at hb <;> try (cases hb; done)
    cases hx; cases hy
    simp only [beq_iff_eq] at ha hb
    subst ha
    subst hb
    simpa [T.same] using run_equalIn_int (P := P) w d t k k _ _ hu
  | str =>
    cases a with
    | str p =>
      cases b with
      | str q =>
        cases hx; cases hy
        have := run_equalIn_string (P := P) w d t p q hu
        rw [this, T.same, beq_toListBytes]
      | _ => cases hb
    | _ => cases ha

def EqOk (P : Program) (I : Nat → Prop) (w : World) (n : Nat) (f : TypeId → Option (List SK)) : Prop :=
  ∀ (t : TypeId) (ks : List SK) (a b : List T) (xs ys : List Value) (ag : Bool), f t = some ks → aggTy P t = some ag → kindsOk ks a = true → kindsOk ks b = true →
    TCells I w a xs → TCells I w b ys → (Op.equalIn n t (mkV ag xs) (mkV ag ys)).run P w = .ok (sameCells a b) w

theorem eqFields_ok {n : Nat} {f : TypeId → Option (List SK)} (ih : EqOk P I w n f) (hag : ∀ t ks, f t = some ks → ∃ ag, aggTy P t = some ag ∧ (ag = false → ks.length = 1)) :
    ∀ (fs : List Field) (off : Nat) (ks : List SK) (a b : List T) (xs ys : List Value), off ≤ a.length → off ≤ b.length → flatFields P f off fs = some ks → kindsOk ks (a.drop off) = true → kindsOk ks (b.drop off) = true →
      TCells I w a xs → TCells I w b ys → (Op.eqFields n xs.toArray ys.toArray fs).run P w = .ok (sameCells (a.drop off) (b.drop off)) w
  | [], off, ks, a, b, xs, ys, _, _, hf, hka, hkb, ha, hb => by
    cases hf
    have h1 := kindsOk_len hka
    have h2 := kindsOk_len hkb
    have e1 : a.drop off = [] := List.length_eq_zero_iff.1 h1
    have e2 : b.drop off = [] := List.length_eq_zero_iff.1 h2
    simp [Op.eqFields, e1, e2, sameCells]
  | x :: rest, off, ks, a, b, xs, ys, hoa, hob, hf, hka, hkb, ha, hb => by
    unfold flatFields at hf
    split at hf
    · rename_i hxo
      simp only [Bool.and_eq_true, bne_iff_ne, beq_iff_eq] at hxo
      obtain ⟨hname, hoff⟩ := hxo
      cases hfx : f x.type with
      | none => rw [hfx] at hf; cases hf
      | some k1 =>
        rw [hfx] at hf
        simp only at hf
        split at hf
        · rename_i hsz
          cases hr : flatFields P f (off + k1.length) rest with
          | none => rw [hr] at hf; cases hf
          | some k2 =>
            rw [hr] at hf
            cases hf
            obtain ⟨ag, hagt, hag1⟩ := hag _ _ hfx
            obtain ⟨ka1, ka2⟩ := kindsOk_append hka
            obtain ⟨kb1, kb2⟩ := kindsOk_append hkb
            have la := kindsOk_len hka
            have lb := kindsOk_len hkb
            simp only [List.length_append, List.length_drop] at la lb
            have hax := ha.1
            have hbx := hb.1
            have pa := part_run (P := P) (w := w) (xs := xs) (o := off) hagt hsz hag1 (by omega)
            have pb := part_run (P := P) (w := w) (xs := ys) (o := off) hagt hsz hag1 (by omega)
            have he := ih x.type k1 _ _ _ _ ag hfx hagt ka1 kb1 (ha.slice off k1.length) (hb.slice off k1.length)
            have ihr := eqFields_ok ih hag rest (off + k1.length) k2 a b xs ys (by omega) (by omega) hr (by rw [← List.drop_drop]; exact ka2) (by rw [← List.drop_drop]; exact kb2) ha hb
            have hsame := sameCells_append (a := a.drop off) (b := b.drop off) k1.length (by simp; omega)
            rw [List.drop_drop, List.drop_drop] at hsame
            rw [hsame]
            simp only [Op.eqFields, ne_eq, hname, not_false_eq_true, if_true, Sem.run_bind, hoff, pa, pb, he, Result.andThen_ok, Sem.run_ite]
            cases hs : sameCells ((a.drop off).take k1.length) ((b.drop off).take k1.length) with
            | true => simp [ihr]
            | false => simp
        · cases hf
    · cases hf

theorem repKinds_len (ks : List SK) : ∀ n, (repKinds ks n).length = n * ks.length
  | 0 => by simp [repKinds]
  | n + 1 => by simp [repKinds, repKinds_len ks n, Nat.add_mul, Nat.add_comm]

theorem eqArr_ok {n : Nat} {f : TypeId → Option (List SK)} (ih : EqOk P I w n f) {e : TypeId} {ks : List SK} {ag : Bool} (hf : f e = some ks) (hag : aggTy P e = some ag) (hag1 : ag = false → ks.length = 1)
    (hsz : szTy P e = some ks.length) {a b : List T} {xs ys : List Value} (ha : TCells I w a xs) (hb : TCells I w b ys) :
    ∀ (m s : Nat), s * ks.length ≤ a.length → s * ks.length ≤ b.length → kindsOk (repKinds ks m) (a.drop (s * ks.length)) = true → kindsOk (repKinds ks m) (b.drop (s * ks.length)) = true →
      ((forIn (List.range' s m) ((none, ()) : Option Bool × PUnit) fun i _ => do
          let x ← part e xs.toArray (i * ks.length)
          let y ← part e ys.toArray (i * ks.length)
          let r ← Op.equalIn n e x y
          if (!r) = true then pure (ForInStep.done (some false, ())) else pure (ForInStep.yield (none, ()))) : Sem (Option Bool × PUnit)).run P w =
        .ok (if sameCells (a.drop (s * ks.length)) (b.drop (s * ks.length)) then (none, ()) else (some false, ())) w
  | 0, s, _, _, hka, hkb => by
    have e1 : a.drop (s * ks.length) = [] := List.length_eq_zero_iff.1 (kindsOk_len hka)
    have e2 : b.drop (s * ks.length) = [] := List.length_eq_zero_iff.1 (kindsOk_len hkb)
    simp [e1, e2, sameCells]
  | m + 1, s, hoa, hob, hka, hkb => by
    obtain ⟨ka1, ka2⟩ := kindsOk_append (ks := ks) (ks' := repKinds ks m) hka
    obtain ⟨kb1, kb2⟩ := kindsOk_append (ks := ks) (ks' := repKinds ks m) hkb
    have la := kindsOk_len hka
    have lb := kindsOk_len hkb
    simp only [repKinds, List.length_append, List.length_drop] at la lb
    have hax := ha.1
    have hbx := hb.1
    have pa := part_run (P := P) (w := w) (xs := xs) (o := s * ks.length) hag hsz hag1 (by omega)
    have pb := part_run (P := P) (w := w) (xs := ys) (o := s * ks.length) hag hsz hag1 (by omega)
    have he := ih e ks _ _ _ _ ag hf hag ka1 kb1 (ha.slice (s * ks.length) ks.length) (hb.slice (s * ks.length) ks.length)
    have hss : s * ks.length + ks.length = (s + 1) * ks.length := by rw [Nat.add_mul, Nat.one_mul]
    rw [List.drop_drop, hss] at ka2 kb2
    have ihr := eqArr_ok ih hf hag hag1 hsz ha hb m (s + 1) (by omega) (by omega) ka2 kb2
    have hsame := sameCells_append (a := a.drop (s * ks.length)) (b := b.drop (s * ks.length)) ks.length (by simp; omega)
    rw [List.drop_drop, List.drop_drop, hss] at hsame
    rw [hsame]
    simp only [List.range'_succ, List.forIn_cons, Sem.run_bind, pa, pb, he, Result.andThen_ok, Sem.run_ite]
    cases hs : sameCells ((a.drop (s * ks.length)).take ks.length) ((b.drop (s * ks.length)).take ks.length) with
    | true =>
      simp only [Bool.not_true, Bool.false_eq_true, if_false, Sem.run_pure, Result.andThen_ok, Bool.true_and]
      exact ihr
    | false => simp

theorem flat_eq : ∀ (d n : Nat), EqOk P I w (n + d) (flatTy P d)
  | 0, n => fun t ks a b xs ys ag hf => by cases hf
  | d + 1, n => fun t ks a b xs ys ag hf hag hka hkb ha hb => by
    have ih := flat_eq d n
    have hn : n + (d + 1) = (n + d) + 1 := rfl
    rw [hn]
    simp only [flatTy] at hf
    have one : ∀ {k : SK} (hk : ks = [k]) (_ : SKTy P t k), ag = false →
        (Op.equalIn (n + d + 1) t (mkV ag xs) (mkV ag ys)).run P w = .ok (sameCells a b) w := by
      intro k hk hu hagf
      subst hk
      subst hagf
      have l1 := kindsOk_len hka
      have l2 := kindsOk_len hkb
      match a, b, l1, l2, hka, hkb, ha, hb with
      | [p], [q], _, _, hka, hkb, ha, hb =>
        obtain ⟨x, xs', rfl, hx, hxs⟩ := ha.cons_inv
        obtain ⟨y, ys', rfl, hy, hys⟩ := hb.cons_inv
        have := scalar_eq (P := P) (d := n + d) hu (by simpa [kindsOk] using hka) (by simpa [kindsOk] using hkb) hx hy
        simp [mkV, this, sameCells]
    split at hf
    · rename_i hu
      cases hf
      exact one (k := .bool) rfl hu (by simp [aggTy, hu] at hag; exact hag)
    · rename_i k hu
      cases hf
      exact one (k := .int k) rfl hu (by simp [aggTy, hu] at hag; exact hag)
    · rename_i hu
      cases hf
      exact one (k := .str) rfl hu (by simp [aggTy, hu] at hag; exact hag)
    · rename_i fs hu
      split at hf
      · cases hf
      · rename_i hst
        have hagt : ag = true := by simp [aggTy, hu] at hag; exact hag
        subst hagt
        have hfo : P.fieldsOf t = fs := by simp [Program.fieldsOf, hu]
        have hr := eqFields_ok ih (fun t ks h => flat_agg h) fs.toList 0 ks a b xs ys (Nat.zero_le _) (Nat.zero_le _) hf (by simpa using hka) (by simpa using hkb) ha hb
        have := run_equalIn_struct (P := P) w (n + d) t xs.toArray ys.toArray (by rw [hfo]; exact hu) (by simpa using hst)
        simp only [mkV, if_true]
        rw [this, hfo, hr]
        simp
    · rename_i m e hu
      have hagt : ag = true := by simp [aggTy, hu] at hag; exact hag
      subst hagt
      cases hfe : flatTy P d e with
      | none => rw [hfe] at hf; cases hf
      | some k1 =>
        rw [hfe] at hf
        simp only at hf
        split at hf
        · rename_i hsz
          cases hf
          obtain ⟨ag1, hag1, hl1⟩ := flat_agg hfe
          have hr := eqArr_ok ih hfe hag1 hl1 hsz ha hb m 0 (by simp) (by simp) (by simpa using hka) (by simpa using hkb)
          simp only [mkV, if_true, Op.equalIn, Sem.run_bind, run_underlying hu, Result.andThen_ok, sizeOf_run hsz]
          rw [Std.Legacy.Range.forIn_eq_forIn_range']
          simp only [Std.Legacy.Range.size, Nat.sub_zero, Nat.add_sub_cancel, Nat.div_one]
          rw [hr]
          simp only [Nat.zero_mul, List.drop_zero, Result.andThen_ok]
          cases sameCells a b <;> simp
        · cases hf
    · cases hf

end
end Go.Dv
