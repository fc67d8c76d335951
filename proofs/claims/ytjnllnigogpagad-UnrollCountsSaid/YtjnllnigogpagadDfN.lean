/- Lists of numbers as arguments, and sums of wrapped numbers. No condition. -/
import Derived.Test.YtjnllnigogpagadDfR
import Derived.KernelRfl
namespace Go.Df
open Go.Dv Go.RowKit

/-! ### Wrapped sums -/

theorem wrap_as (x : Int) : ∃ q : Int, IntKind.i64.wrap x = x + 18446744073709551616 * q := by
  have e64 : (2 ^ 64 : Int) = 18446744073709551616 := by decide
  have e63 : (2 ^ 63 : Int) = 9223372036854775808 := by decide
  show ∃ q : Int, (if (true && decide (x % (2 ^ 64 : Int) ≥ (2 ^ 63 : Int))) = true then x % (2 ^ 64 : Int) - (2 ^ 64 : Int) else x % (2 ^ 64 : Int)) = _
  rw [e64, e63]
  have h := Int.emod_add_mul_ediv x 18446744073709551616
  by_cases hd : x % 18446744073709551616 ≥ 9223372036854775808
  · rw [decide_eq_true hd]
    exact ⟨-(x / 18446744073709551616) - 1, by simp only [Bool.and_self, if_true]; omega⟩
  · rw [decide_eq_false hd]
    exact ⟨-(x / 18446744073709551616), by simp only [Bool.and_false, Bool.false_eq_true, if_false]; omega⟩

theorem wrap_mul (x q : Int) : IntKind.i64.wrap (x + 18446744073709551616 * q) = IntKind.i64.wrap x := by
  have e64 : (2 ^ 64 : Int) = 18446744073709551616 := by decide
  show (if (true && decide ((x + 18446744073709551616 * q) % (2 ^ 64 : Int) ≥ (2 ^ 63 : Int))) = true then (x + 18446744073709551616 * q) % (2 ^ 64 : Int) - (2 ^ 64 : Int) else (x + 18446744073709551616 * q) % (2 ^ 64 : Int)) = (if (true && decide (x % (2 ^ 64 : Int) ≥ (2 ^ 63 : Int))) = true then x % (2 ^ 64 : Int) - (2 ^ 64 : Int) else x % (2 ^ 64 : Int))
  rw [e64, Int.add_mul_emod_self_left]

theorem wrap_addl (x y : Int) : IntKind.i64.wrap (IntKind.i64.wrap x + y) = IntKind.i64.wrap (x + y) := by
  obtain ⟨q, e⟩ := wrap_as x
  rw [e, show x + 18446744073709551616 * q + y = x + y + 18446744073709551616 * q by omega, wrap_mul]

theorem wrap_addr (x y : Int) : IntKind.i64.wrap (x + IntKind.i64.wrap y) = IntKind.i64.wrap (x + y) := by
  rw [Int.add_comm, wrap_addl, Int.add_comm]

theorem wrap_subl (x y : Int) : IntKind.i64.wrap (IntKind.i64.wrap x - y) = IntKind.i64.wrap (x - y) := by
  obtain ⟨q, e⟩ := wrap_as x
  rw [e, show x + 18446744073709551616 * q - y = x - y + 18446744073709551616 * q by omega, wrap_mul]

theorem wrap_subr (x y : Int) : IntKind.i64.wrap (x - IntKind.i64.wrap y) = IntKind.i64.wrap (x - y) := by
  obtain ⟨q, e⟩ := wrap_as y
  rw [e, show x - (y + 18446744073709551616 * q) = x - y + 18446744073709551616 * (-q) by omega, wrap_mul]

theorem wrap_wf {a : Int} (h : (Lit.int .i64 a).wf = true) : IntKind.i64.wrap a = a := by
  simp only [Lit.wf, Bool.and_eq_true, decide_eq_true_eq] at h
  have h1 : -9223372036854775808 ≤ a := h.1
  have h2 : a ≤ 9223372036854775807 := h.2
  show (if (true && decide (a % (2 ^ 64 : Int) ≥ (2 ^ 63 : Int))) = true then a % (2 ^ 64 : Int) - (2 ^ 64 : Int) else a % (2 ^ 64 : Int)) = a
  have e64 : (2 ^ 64 : Int) = 18446744073709551616 := by decide
  have e63 : (2 ^ 63 : Int) = 9223372036854775808 := by decide
  rw [e64, e63]
  by_cases hd : a % 18446744073709551616 ≥ 9223372036854775808
  · rw [decide_eq_true hd]
    simp only [Bool.and_self, if_true]
    omega
  · rw [decide_eq_false hd]
    simp only [Bool.and_false, Bool.false_eq_true, if_false]
    omega

/-! ### A list of numbers -/

/-- The numbers of a list, as elements of one cell. -/
def intRows (zs : List Int) : List (List T) := zs.map fun z => [.int .i64 z]

theorem rel_ints {J : Nat → Prop} {w : World} {a : Addr} {len cap : Nat} {zs : List Int} (hl : len ≤ cap) (hz : zs.length = cap) (h0 : 0 < len) (hJ : J a.block)
    (hcell : ∀ i, i < zs.length → w.cell? (a.add i) = some (.int .i64 (zs.getD i 0))) :
    TRel J w (.lst 1 (intRows (zs.take len))) (.slice (some a) len cap) := by
  have hlen : (intRows (zs.take len)).length = len := by simp only [intRows, List.length_map, List.length_take]; omega
  have h1 := hcell 0 (by omega)
  have ea0 : a.add 0 = a := rfl
  rw [ea0] at h1
  have hh : ∃ cs ty fr, w.heap[a.block]? = some (.cells cs ty fr) ∧ a.spot = none := by
    have h2 : w.cell? a = some (.int .i64 (zs.getD 0 0)) := h1
    unfold World.cell? at h2
    split at h2
    · rename_i c ty fr hc
      cases hs : a.spot with
      | none => exact ⟨c, ty, fr, hc, rfl⟩
      | some s => rw [hs] at h2; cases h2
    · cases h2
  obtain ⟨cs, ty, fr, hb, hs⟩ := hh
  have hcs : ∀ i, i < len → cs[a.off + i]? = some (.int .i64 (zs.getD i 0)) := by
    intro i hi
    have h2 := hcell i (by omega)
    have ea : a.add i = ⟨a.block, a.off + i, none⟩ := by
      unfold Addr.add
      split
      · rename_i h; subst h; cases a; cases hs; rfl
      · rfl
    rw [ea] at h2
    unfold World.cell? at h2
    rw [hb] at h2
    simpa using h2
  refine .lst _ a len cap 1 cs ty fr (fun i _ => .int .i64 (zs.getD i 0)) hlen.symm hs hJ hb (by omega) ?_ ?_ ?_
  · intro i h
    simp only [intRows, List.getElem_map, List.length_cons, List.length_nil]
  · intro i j hi hj
    rw [show a.off + i * 1 + j = a.off + i by omega]
    exact hcs i (by omega)
  · intro i j hi hj
    simp only [intRows, List.getElem_map, List.getElem_take] at hj ⊢
    have e : j = 0 := by simp only [List.length_cons, List.length_nil] at hj; omega
    subst e
    have e2 : zs.getD i 0 = zs[i]'(by omega) := by rw [List.getD_eq_getElem?_getD, List.getElem?_eq_getElem (by omega)]; rfl
    simp only [List.getElem_cons_zero, e2]
    exact .int _ _

theorem args_d {J : Nat → Prop} {w : World} {t : T} {x : Value} {vs : List V} {xs : List Value} (ht : TRel J w t x) (h : CRel (fun _ => none) J w vs xs) : CRel (fun _ => none) J w (.d t :: vs) (x :: xs) :=
  .cons (.d _ _ ht) h

theorem args_emp {J : Nat → Prop} {w : World} {a : Addr} {cap : Nat} {vs : List V} {xs : List Value} (h : CRel (fun _ => none) J w vs xs) : CRel (fun _ => none) J w (.emp :: vs) (.slice (some a) 0 cap :: xs) :=
  .cons (.emp a cap) h

theorem args_opq {J : Nat → Prop} {w : World} {x : Value} {vs : List V} {xs : List Value} (h1 : x.oneCell' = true) (h2 : ∀ b, x ≠ .bool b) (h : CRel (fun _ => none) J w vs xs) : CRel (fun _ => none) J w (.opq :: vs) (x :: xs) :=
  .cons (.opq x h1 h2) h

theorem args_none {J : Nat → Prop} {w : World} : CRel (fun _ => none) J w [] [] := ⟨rfl, fun i hi => absurd hi (by simp)⟩

/-- The numbers of a list as unknowns, from number 1 on; behind the first ones as they are. -/
def ev (a : Int) (zs : List Int) : Ev
  | 0 => a
  | i + 1 => zs.getD i 0

def vars (n : Nat) : List (List FT) := (List.range n).map fun i => [.int .i64 (.var (i + 1))]

theorem den_vars (a : Int) {zs l : List Int} {n : Nat} (hn : n ≤ l.length) (hl : ∀ i (h : i < l.length), zs.getD i 0 = l[i]) :
    (vars n ++ ((l.drop n).map fun z => [FT.int .i64 (.lit z)])).map (List.map (FT.den (ev a zs))) = intRows l := by
  refine List.ext_getElem ?_ ?_
  · simp only [vars, intRows, List.length_map, List.length_append, List.length_range, List.length_drop]; omega
  · intro i h1 h2
    simp only [intRows, List.length_map] at h2
    simp only [List.getElem_map, intRows]
    by_cases hi : i < n
    · rw [List.getElem_append_left (by simpa [vars] using hi)]
      simp only [vars, List.getElem_map, List.getElem_range, List.map_cons, List.map_nil, den_int, E.den, ev, hl i h2]
    · rw [List.getElem_append_right (by simpa [vars] using hi)]
      simp only [vars, List.length_map, List.length_range, List.getElem_map, List.getElem_drop, List.map_cons, List.map_nil, den_int, E.den]
      congr 4
      omega

end Go.Df
