/- Regions at whatever order their edges allow: the bookkeeping. No condition. -/
import Derived.Test.YtjnllnigogpagadDvP
namespace Go.Dv

/-! ### What must come ahead -/

theorem foldBits (acc : List Nat) (i : Nat) : ∀ (es : List Edge) (s0 : Nat),
    (es.foldl (fun s e => if Region.binds .any e then s ||| 2 ^ e.on ||| acc.getD e.on 0 else s) s0).testBit i = true →
    s0.testBit i = true ∨ ∃ e ∈ es, Region.binds .any e = true ∧ (e.on = i ∨ (acc.getD e.on 0).testBit i = true)
  | [], s0, h => .inl h
  | e :: es, s0, h => by
    simp only [List.foldl_cons] at h
    rcases foldBits acc i es _ h with h1 | ⟨e', he', hb, h2⟩
    · split at h1
      · rename_i hb
        simp only [Nat.testBit_or, Bool.or_eq_true, Nat.testBit_two_pow, decide_eq_true_eq] at h1
        rcases h1 with (h1 | h1) | h1
        · exact .inl h1
        · exact .inr ⟨e, by simp, hb, .inl h1⟩
        · exact .inr ⟨e, by simp, hb, .inr h1⟩
      · exact .inl h1
    · exact .inr ⟨e', by simp [he'], hb, h2⟩

theorem befs_len (ops : List Oper) : ∀ (l : List Oper) (acc : List Nat), (befs ops acc l).length = acc.length + l.length
  | [], acc => by simp [befs]
  | o :: l, acc => by
    rw [befs, befs_len ops l]
    simp; omega

theorem befs_keep (ops : List Oper) : ∀ (l : List Oper) (acc : List Nat) (j : Nat), j < acc.length → (befs ops acc l).getD j 0 = acc.getD j 0
  | [], acc, j, hj => rfl
  | o :: l, acc, j, hj => by
    rw [befs, befs_keep ops l _ j (by simp; omega)]
    simp [List.getD_eq_getElem?_getD, List.getElem?_append_left hj]

theorem befs_spec (ops : List Oper) : ∀ (l : List Oper) (acc : List Nat) (j : Nat) (i : Nat) (o : Oper), l[j]? = some o → ((befs ops acc l).getD (acc.length + j) 0).testBit i = true →
    ∃ e ∈ o.after, Region.binds .any e = true ∧ (e.on = i ∨ (e.on < acc.length + j ∧ ((befs ops acc l).getD e.on 0).testBit i = true))
  | [], acc, j, i, o, hj, _ => by simp at hj
  | x :: l, acc, 0, i, o, hj, h => by
    simp only [List.getElem?_cons_zero, Option.some.injEq] at hj
    subst hj
    rw [befs, befs_keep ops l _ _ (by simp)] at h
    simp only [Nat.add_zero, List.getD_eq_getElem?_getD, List.getElem?_append_right (Nat.le_refl _), Nat.sub_self, List.getElem?_cons_zero, Option.getD_some] at h
    have h' : ((x.after.toList.foldl (fun s e => if Region.binds .any e then s ||| 2 ^ e.on ||| acc.getD e.on 0 else s) 0)).testBit i = true := by simpa [List.getD_eq_getElem?_getD] using h
    rcases foldBits acc i _ _ h' with h1 | ⟨e, he, hb, h2⟩
    · simp at h1
    · refine ⟨e, by simpa using he, hb, ?_⟩
      rcases h2 with h2 | h2
      · exact .inl h2
      · have hlt : e.on < acc.length := by
          rcases Nat.lt_or_ge e.on acc.length with h3 | h3
          · exact h3
          · simp [List.getD_eq_getElem?_getD, List.getElem?_eq_none h3] at h2
        refine .inr ⟨by omega, ?_⟩
        rw [befs, befs_keep ops l _ _ (by simp; omega)]
        simpa [List.getD_eq_getElem?_getD, List.getElem?_append_left hlt] using h2
  | x :: l, acc, j + 1, i, o, hj, h => by
    simp only [List.getElem?_cons_succ] at hj
    rw [befs] at h ⊢
    have e1 : acc.length + (j + 1) = (acc ++ [x.after.toList.foldl (fun s e => if Region.binds .any e then s ||| 2 ^ e.on ||| acc.getD e.on 0 else s) 0]).length + j := by simp; omega
    rw [e1] at h
    obtain ⟨e, he, hb, h2⟩ := befs_spec ops l _ j i o hj h
    refine ⟨e, he, hb, ?_⟩
    rcases h2 with h2 | ⟨h3, h2⟩
    · exact .inl h2
    · exact .inr ⟨by omega, h2⟩

/-- A set of operations that is closed under what must come ahead. -/
def Closed (ops : Array Oper) (L : Nat → Bool) : Prop := ∀ (k : Nat) (o : Oper), ops[k]? = some o → L k = true → ∀ e ∈ o.after, Region.binds .any e = true → L e.on = true

theorem bef_listed {ops : Array Oper} {L : Nat → Bool} (hcl : Closed ops L) : ∀ (k i : Nat) (o : Oper), ops[k]? = some o → (∀ e ∈ o.after, Region.binds .any e = true → L e.on = true) →
    ((befs ops.toList [] ops.toList).getD k 0).testBit i = true → L i = true := by
  intro k
  induction k using Nat.strongRecOn with
  | _ k ih =>
    intro i o ho hpre h
    obtain ⟨e, he, hb, h2⟩ := befs_spec ops.toList ops.toList [] k i o (by simpa using ho) (by simpa using h)
    rcases h2 with h2 | ⟨h3, h2⟩
    · rw [← h2]; exact hpre e he hb
    · have hlt : e.on < ops.size := by
        rcases Nat.lt_or_ge e.on ops.size with h4 | h4
        · exact h4
        · have hl := befs_len ops.toList ops.toList []
          simp only [List.length_nil, Nat.zero_add, Array.length_toList] at hl
          simp [List.getD_eq_getElem?_getD, List.getElem?_eq_none (by omega : (befs ops.toList [] ops.toList).length ≤ e.on)] at h2
      have hoe : ops[e.on]? = some ops[e.on] := Array.getElem?_eq_getElem hlt
      exact ih e.on (by simpa using h3) i _ hoe (hcl e.on _ hoe (hpre e he hb)) h2

/-! ### The state behind any of the operations -/

def tmAt (t0 : List V) (dst : Nat → Option Nat) (val : Nat → V) (L : Nat → Bool) : Nat → List V
  | 0 => t0
  | m + 1 => if L m then putSlot (tmAt t0 dst val L m) (dst m) (val m) else tmAt t0 dst val L m

def hpAt (h0 : Heap) (T : Nat → St) (W : Nat → Nat → Bool) (L : Nat → Bool) : Nat → Heap
  | 0 => h0
  | m + 1 => fun κ => if (L m && W m κ) = true then (T (m + 1)).hp κ else hpAt h0 T W L m κ

def nxAt (n0 : Nat) (T : Nat → St) (five : Nat → Bool) (L : Nat → Bool) : Nat → Nat
  | 0 => n0
  | m + 1 => if (L m && five m) = true then (T (m + 1)).nx else nxAt n0 T five L m

def setL (L : Nat → Bool) (k : Nat) : Nat → Bool := fun i => if i = k then true else L i

theorem putSlot_get {tm : List V} {d : Option Nat} {v : V} {t : Nat} (h : d ≠ some t) : (putSlot tm d v)[t]? = tm[t]? := by
  cases d with
  | none => rfl
  | some d => simp only [putSlot]; rw [List.getElem?_set_ne]; intro e; exact h (by rw [e])

theorem putSlot_comm {tm : List V} {d e : Option Nat} {v u : V} (h : ∀ t, d = some t → e ≠ some t) : putSlot (putSlot tm d v) e u = putSlot (putSlot tm e u) d v := by
  cases d with
  | none => rfl
  | some d =>
    cases e with
    | none => rfl
    | some e =>
      simp only [putSlot]
      rw [List.set_comm]
      intro e1
      exact h d rfl (by rw [e1])

section
variable {t0 : List V} {dst : Nat → Option Nat} {val : Nat → V} {L : Nat → Bool} {T : Nat → St} {h0 : Heap} {W : Nat → Nat → Bool} {n0 : Nat} {five : Nat → Bool}

theorem tmAt_slot {t n : Nat} {k : Nat} (hk : k ≤ n) (h0T : t0 = (T 0).tm) (hT : ∀ m, m < n → (T (m + 1)).tm = putSlot (T m).tm (dst m) (val m))
    (h1 : ∀ m, m < k → L m = false → dst m ≠ some t) (h2 : ∀ m, k ≤ m → m < n → L m = true → dst m ≠ some t) : (tmAt t0 dst val L n)[t]? = (T k).tm[t]? := by
  have lo : ∀ m, m ≤ k → (tmAt t0 dst val L m)[t]? = (T m).tm[t]? := by
    intro m
    induction m with
    | zero => intro _; rw [tmAt, h0T]
    | succ m ih =>
      intro hm
      rw [hT m (by omega), tmAt]
      cases hL : L m with
      | true =>
        simp only [if_true]
        have ihm := ih (by omega)
        cases hd : dst m with
        | none => exact ihm
        | some d =>
          simp only [putSlot]
          by_cases e : d = t
          · subst e
            have hlen : (tmAt t0 dst val L m).length = (T m).tm.length := by
              have key : ∀ j, j ≤ m → (tmAt t0 dst val L j).length = (T j).tm.length := by
                intro j
                induction j with
                | zero => intro _; rw [tmAt, h0T]
                | succ j ihj =>
                  intro hj
                  have := ihj (by omega)
                  rw [hT j (by omega), tmAt]
                  split
                  · cases dst j <;> simp [putSlot, this]
                  · cases dst j <;> simp [putSlot, this]
              exact key m (Nat.le_refl _)
            rw [List.getElem?_set_self', List.getElem?_set_self', ihm]
          · rw [List.getElem?_set_ne e, List.getElem?_set_ne e]; exact ihm
      | false =>
        simp only [Bool.false_eq_true, if_false]
        rw [putSlot_get (h1 m (by omega) hL)]
        exact ih (by omega)
  have hi : ∀ m, k ≤ m → m ≤ n → (tmAt t0 dst val L m)[t]? = (tmAt t0 dst val L k)[t]? := by
    intro m
    induction m with
    | zero => intro h _; rw [show k = 0 by omega]
    | succ m ih =>
      intro hkm hmn
      by_cases e : k = m + 1
      · rw [e]
      · rw [tmAt]
        cases hL : L m with
        | true => simp only [if_true]; rw [putSlot_get (h2 m (by omega) (by omega) hL)]; exact ih (by omega) (by omega)
        | false => simp only [Bool.false_eq_true, if_false]; exact ih (by omega) (by omega)
  rw [hi n hk (Nat.le_refl _)]
  exact lo k (Nat.le_refl _)

theorem tmAt_set {k n : Nat} (hk : k < n) (hL : L k = false) (h2 : ∀ m, k < m → m < n → L m = true → ∀ t, dst k = some t → dst m ≠ some t) :
    tmAt t0 dst val (setL L k) n = putSlot (tmAt t0 dst val L n) (dst k) (val k) := by
  have lo : ∀ m, m ≤ k → tmAt t0 dst val (setL L k) m = tmAt t0 dst val L m := by
    intro m
    induction m with
    | zero => intro _; rfl
    | succ m ih =>
      intro hm
      rw [tmAt, tmAt, ih (by omega)]
      simp [setL, show m ≠ k by omega]
  have hi : ∀ m, k < m → m ≤ n → tmAt t0 dst val (setL L k) m = putSlot (tmAt t0 dst val L m) (dst k) (val k) := by
    intro m
    induction m with
    | zero => intro h _; omega
    | succ m ih =>
      intro hkm hmn
      by_cases e : k = m
      · subst e
        rw [tmAt, tmAt, lo k (Nat.le_refl _)]
        simp [setL, hL]
      · rw [tmAt, tmAt, ih (by omega) (by omega)]
        have hs : setL L k m = L m := by simp [setL, show m ≠ k by omega]
        rw [hs]
        cases hLm : L m with
        | true => simp only [if_true]; exact putSlot_comm (h2 m (by omega) (by omega) hLm)
        | false => simp
  exact hi n hk (Nat.le_refl _)

theorem hpAt_succ (m κ : Nat) : hpAt h0 T W L (m + 1) κ = if (L m && W m κ) = true then (T (m + 1)).hp κ else hpAt h0 T W L m κ := rfl

theorem hpAt_key {κ n k : Nat} (hk : k ≤ n) (h0T : h0 = (T 0).hp) (hT : ∀ m, m < n → W m κ = false → (T (m + 1)).hp κ = (T m).hp κ) (h1 : ∀ m, m < k → L m = false → W m κ = false)
    (h2 : ∀ m, k ≤ m → m < n → L m = true → W m κ = false) : hpAt h0 T W L n κ = (T k).hp κ := by
  have lo : ∀ m, m ≤ k → hpAt h0 T W L m κ = (T m).hp κ := by
    intro m
    induction m with
    | zero => intro _; rw [hpAt, h0T]
    | succ m ih =>
      intro hm
      rw [hpAt_succ]
      cases hL : L m with
      | true =>
        cases hW : W m κ with
        | true => rfl
        | false => rw [hT m (by omega) hW]; exact ih (by omega)
      | false => simp only [Bool.false_and, Bool.false_eq_true, if_false]; rw [ih (by omega), hT m (by omega) (h1 m (by omega) hL)]
  have hi : ∀ m, k ≤ m → m ≤ n → hpAt h0 T W L m κ = hpAt h0 T W L k κ := by
    intro m
    induction m with
    | zero => intro h _; rw [show k = 0 by omega]
    | succ m ih =>
      intro hkm hmn
      by_cases e : k = m + 1
      · rw [e]
      · rw [hpAt_succ]
        cases hL : L m with
        | true => rw [h2 m (by omega) (by omega) hL]; simp only [Bool.and_false, Bool.false_eq_true, if_false]; exact ih (by omega) (by omega)
        | false => simp only [Bool.false_and, Bool.false_eq_true, if_false]; exact ih (by omega) (by omega)
  rw [hi n hk (Nat.le_refl _)]
  exact lo k (Nat.le_refl _)

theorem hpAt_set {κ k n : Nat} (hk : k < n) (hL : L k = false) (h2 : ∀ m, k < m → m < n → L m = true → W k κ = true → W m κ = false) :
    hpAt h0 T W (setL L k) n κ = if W k κ = true then (T (k + 1)).hp κ else hpAt h0 T W L n κ := by
  have lo : ∀ m, m ≤ k → hpAt h0 T W (setL L k) m κ = hpAt h0 T W L m κ := by
    intro m
    induction m with
    | zero => intro _; rfl
    | succ m ih =>
      intro hm
      rw [hpAt_succ, hpAt_succ, ih (by omega)]
      simp [setL, show m ≠ k by omega]
  have hi : ∀ m, k < m → m ≤ n → hpAt h0 T W (setL L k) m κ = if W k κ = true then (T (k + 1)).hp κ else hpAt h0 T W L m κ := by
    intro m
    induction m with
    | zero => intro h _; omega
    | succ m ih =>
      intro hkm hmn
      by_cases e : k = m
      · subst e
        rw [hpAt_succ, hpAt_succ, lo k (Nat.le_refl _)]
        simp [setL, hL]
      · rw [hpAt_succ, hpAt_succ, ih (by omega) (by omega)]
        have hs : setL L k m = L m := by simp [setL, show m ≠ k by omega]
        rw [hs]
        by_cases hW : W k κ = true
        · simp only [if_pos hW]
          cases hLm : L m with
          | true => rw [h2 m (by omega) (by omega) hLm hW]; simp
          | false => simp
        · simp only [if_neg hW]
  exact hi n hk (Nat.le_refl _)

theorem nxAt_eq {n k : Nat} (hk : k ≤ n) (h0T : n0 = (T 0).nx) (hT : ∀ m, m < n → five m = false → (T (m + 1)).nx = (T m).nx) (h1 : ∀ m, m < k → L m = false → five m = false)
    (h2 : ∀ m, k ≤ m → m < n → L m = true → five m = false) : nxAt n0 T five L n = (T k).nx := by
  have lo : ∀ m, m ≤ k → nxAt n0 T five L m = (T m).nx := by
    intro m
    induction m with
    | zero => intro _; rw [nxAt, h0T]
    | succ m ih =>
      intro hm
      rw [nxAt]
      cases hL : L m with
      | true =>
        cases hW : five m with
        | true => simp
        | false => simp only [Bool.and_false, Bool.false_eq_true, if_false]; rw [ih (by omega), hT m (by omega) hW]
      | false => simp only [Bool.false_and, Bool.false_eq_true, if_false]; rw [ih (by omega), hT m (by omega) (h1 m (by omega) hL)]
  have hi : ∀ m, k ≤ m → m ≤ n → nxAt n0 T five L m = nxAt n0 T five L k := by
    intro m
    induction m with
    | zero => intro h _; rw [show k = 0 by omega]
    | succ m ih =>
      intro hkm hmn
      by_cases e : k = m + 1
      · rw [e]
      · rw [nxAt]
        cases hL : L m with
        | true => rw [h2 m (by omega) (by omega) hL]; simp only [Bool.and_false, Bool.false_eq_true, if_false]; exact ih (by omega) (by omega)
        | false => simp only [Bool.false_and, Bool.false_eq_true, if_false]; exact ih (by omega) (by omega)
  rw [hi n hk (Nat.le_refl _)]
  exact lo k (Nat.le_refl _)

theorem nxAt_set {k n : Nat} (hk : k < n) (hL : L k = false) (h2 : ∀ m, k < m → m < n → L m = true → five k = true → five m = false) :
    nxAt n0 T five (setL L k) n = if five k = true then (T (k + 1)).nx else nxAt n0 T five L n := by
  have lo : ∀ m, m ≤ k → nxAt n0 T five (setL L k) m = nxAt n0 T five L m := by
    intro m
    induction m with
    | zero => intro _; rfl
    | succ m ih =>
      intro hm
      rw [nxAt, nxAt, ih (by omega)]
      simp [setL, show m ≠ k by omega]
  have hi : ∀ m, k < m → m ≤ n → nxAt n0 T five (setL L k) m = if five k = true then (T (k + 1)).nx else nxAt n0 T five L m := by
    intro m
    induction m with
    | zero => intro h _; omega
    | succ m ih =>
      intro hkm hmn
      by_cases e : k = m
      · subst e
        rw [nxAt, nxAt, lo k (Nat.le_refl _)]
        simp [setL, hL]
      · rw [nxAt, nxAt, ih (by omega) (by omega)]
        have hs : setL L k m = L m := by simp [setL, show m ≠ k by omega]
        rw [hs]
        by_cases hW : five k = true
        · simp only [if_pos hW]
          cases hLm : L m with
          | true => rw [h2 m (by omega) (by omega) hLm hW]; simp
          | false => simp
        · simp only [if_neg hW]
  exact hi n hk (Nat.le_refl _)

end
end Go.Dv
