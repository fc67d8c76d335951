/- The law's function returns true and leaves what was there as it was. No condition. -/
import Derived.Test.YtolopdkchgohlacPdsOk
import Derived.Test.YtolopdkchgohlacDfN
import Derived.Test.YtolopdkchgohlacDeadSalvagesRun
namespace Go.Dv.DeadSalvagesWalk
open Go Go.Df Go.Proofs Go.RowKit Go.Dv.Pds
set_option linter.unusedSimpArgs false

theorem op_add (x y : Int) : opVal .add .i64 x y = IntKind.i64.wrap (x + y) := rfl
theorem op_sub (x y : Int) : opVal .sub .i64 x y = IntKind.i64.wrap (x - y) := rfl

theorem fact_of {ρ : Ev} {a b : E} (h : a.den ρ = b.den ρ) : FactsOk ρ [(.eql, a, b, true)] :=
  facts_cons (by simp only [h, intOp, V.bool, beq_self_eq_true]) facts_nil

theorem sum0 (ρ : Ev) (h : IntKind.i64.wrap (ρ 0) = ρ 0) : E.den ρ (.var 0) = E.den ρ (.bin .add .i64 (.lit 0) (.var 0)) := by
  simp only [E.den, op_add, op_sub, wrap_addl, wrap_addr, wrap_subl, wrap_subr]
  rw [Int.zero_add]; exact h.symm

theorem sum1 (ρ : Ev) : E.den ρ (.bin .add .i64 (.var 0) (.var 1)) = E.den ρ (.bin .add .i64 (.bin .add .i64 (.lit 0) (.var 1)) (.var 0)) := by
  simp only [E.den, op_add, op_sub, wrap_addl, wrap_addr, wrap_subl, wrap_subr]
  exact congrArg _ (by omega)

theorem sum2 (ρ : Ev) : E.den ρ (.bin .add .i64 (.bin .add .i64 (.var 0) (.var 2)) (.var 1)) = E.den ρ (.bin .add .i64 (.bin .add .i64 (.bin .add .i64 (.lit 0) (.var 1)) (.var 2)) (.var 0)) := by
  simp only [E.den, op_add, op_sub, wrap_addl, wrap_addr, wrap_subl, wrap_subr]
  exact congrArg _ (by omega)

theorem sum3 (ρ : Ev) : E.den ρ (.bin .add .i64 (.bin .add .i64 (.bin .sub .i64 (.var 0) (.var 3)) (.var 2)) (.var 1)) = E.den ρ (.bin .add .i64 (.bin .sub .i64 (.bin .add .i64 (.bin .add .i64 (.lit 0) (.var 1)) (.var 2)) (.var 3)) (.var 0)) := by
  simp only [E.den, op_add, op_sub, wrap_addl, wrap_addr, wrap_subl, wrap_subr]
  exact congrArg _ (by omega)

theorem sum4 (ρ : Ev) : E.den ρ (.bin .add .i64 (.bin .add .i64 (.bin .sub .i64 (.bin .add .i64 (.var 0) (.var 4)) (.var 3)) (.var 2)) (.var 1)) = E.den ρ (.bin .add .i64 (.bin .add .i64 (.bin .sub .i64 (.bin .add .i64 (.bin .add .i64 (.lit 0) (.var 1)) (.var 2)) (.var 3)) (.var 4)) (.var 0)) := by
  simp only [E.den, op_add, op_sub, wrap_addl, wrap_addr, wrap_subl, wrap_subr]
  exact congrArg _ (by omega)

theorem sum5 (ρ : Ev) : E.den ρ (.bin .add .i64 (.bin .add .i64 (.bin .sub .i64 (.bin .add .i64 (.bin .add .i64 (.var 0) (.var 5)) (.var 4)) (.var 3)) (.var 2)) (.var 1)) = E.den ρ (.bin .add .i64 (.bin .add .i64 (.bin .add .i64 (.bin .sub .i64 (.bin .add .i64 (.bin .add .i64 (.lit 0) (.var 1)) (.var 2)) (.var 3)) (.var 4)) (.var 5)) (.var 0)) := by
  simp only [E.den, op_add, op_sub, wrap_addl, wrap_addr, wrap_subl, wrap_subr]
  exact congrArg _ (by omega)

theorem sum6 (ρ : Ev) : E.den ρ (.bin .add .i64 (.bin .add .i64 (.bin .sub .i64 (.bin .add .i64 (.bin .add .i64 (.bin .sub .i64 (.var 0) (.var 6)) (.var 5)) (.var 4)) (.var 3)) (.var 2)) (.var 1)) = E.den ρ (.bin .add .i64 (.bin .sub .i64 (.bin .add .i64 (.bin .add .i64 (.bin .sub .i64 (.bin .add .i64 (.bin .add .i64 (.lit 0) (.var 1)) (.var 2)) (.var 3)) (.var 4)) (.var 5)) (.var 6)) (.var 0)) := by
  simp only [E.den, op_add, op_sub, wrap_addl, wrap_addr, wrap_subl, wrap_subr]
  exact congrArg _ (by omega)

theorem sum7 (ρ : Ev) : E.den ρ (.bin .add .i64 (.bin .add .i64 (.bin .sub .i64 (.bin .add .i64 (.bin .add .i64 (.bin .sub .i64 (.bin .add .i64 (.var 0) (.var 7)) (.var 6)) (.var 5)) (.var 4)) (.var 3)) (.var 2)) (.var 1)) = E.den ρ (.bin .add .i64 (.bin .add .i64 (.bin .sub .i64 (.bin .add .i64 (.bin .add .i64 (.bin .sub .i64 (.bin .add .i64 (.bin .add .i64 (.lit 0) (.var 1)) (.var 2)) (.var 3)) (.var 4)) (.var 5)) (.var 6)) (.var 7)) (.var 0)) := by
  simp only [E.den, op_add, op_sub, wrap_addl, wrap_addr, wrap_subl, wrap_subr]
  exact congrArg _ (by omega)

theorem sum8 (ρ : Ev) : E.den ρ (.bin .add .i64 (.bin .add .i64 (.bin .sub .i64 (.bin .add .i64 (.bin .add .i64 (.bin .sub .i64 (.bin .add .i64 (.bin .add .i64 (.var 0) (.var 8)) (.var 7)) (.var 6)) (.var 5)) (.var 4)) (.var 3)) (.var 2)) (.var 1)) = E.den ρ (.bin .add .i64 (.bin .add .i64 (.bin .add .i64 (.bin .sub .i64 (.bin .add .i64 (.bin .add .i64 (.bin .sub .i64 (.bin .add .i64 (.bin .add .i64 (.lit 0) (.var 1)) (.var 2)) (.var 3)) (.var 4)) (.var 5)) (.var 6)) (.var 7)) (.var 8)) (.var 0)) := by
  simp only [E.den, op_add, op_sub, wrap_addl, wrap_addr, wrap_subl, wrap_subr]
  exact congrArg _ (by omega)

theorem sum9 (ρ : Ev) : E.den ρ (.bin .add .i64 (.bin .add .i64 (.bin .sub .i64 (.bin .add .i64 (.bin .add .i64 (.bin .sub .i64 (.bin .add .i64 (.bin .add .i64 (.bin .sub .i64 (.var 0) (.var 9)) (.var 8)) (.var 7)) (.var 6)) (.var 5)) (.var 4)) (.var 3)) (.var 2)) (.var 1)) = E.den ρ (.bin .add .i64 (.bin .sub .i64 (.bin .add .i64 (.bin .add .i64 (.bin .sub .i64 (.bin .add .i64 (.bin .add .i64 (.bin .sub .i64 (.bin .add .i64 (.bin .add .i64 (.lit 0) (.var 1)) (.var 2)) (.var 3)) (.var 4)) (.var 5)) (.var 6)) (.var 7)) (.var 8)) (.var 9)) (.var 0)) := by
  simp only [E.den, op_add, op_sub, wrap_addl, wrap_addr, wrap_subl, wrap_subr]
  exact congrArg _ (by omega)

theorem sum10 (ρ : Ev) : E.den ρ (.bin .add .i64 (.bin .add .i64 (.bin .sub .i64 (.bin .add .i64 (.bin .add .i64 (.bin .sub .i64 (.bin .add .i64 (.bin .add .i64 (.bin .sub .i64 (.bin .add .i64 (.var 0) (.var 10)) (.var 9)) (.var 8)) (.var 7)) (.var 6)) (.var 5)) (.var 4)) (.var 3)) (.var 2)) (.var 1)) = E.den ρ (.bin .add .i64 (.bin .add .i64 (.bin .sub .i64 (.bin .add .i64 (.bin .add .i64 (.bin .sub .i64 (.bin .add .i64 (.bin .add .i64 (.bin .sub .i64 (.bin .add .i64 (.bin .add .i64 (.lit 0) (.var 1)) (.var 2)) (.var 3)) (.var 4)) (.var 5)) (.var 6)) (.var 7)) (.var 8)) (.var 9)) (.var 10)) (.var 0)) := by
  simp only [E.den, op_add, op_sub, wrap_addl, wrap_addr, wrap_subl, wrap_subr]
  exact congrArg _ (by omega)

abbrev Fine (w : World) (e : Ending) (w' : World) : Prop := e = .returned (.bool true) ∧ Grown w w' ∧ Below w.heap.size w w'

theorem walk (w : World) {a0 : Option Addr} {len cap : Nat}
    (hx : (a0 = none ∧ len = 0 ∧ cap = 0) ∨ ∃ (a : Addr) (zs : List Int), a0 = some a ∧ len ≤ cap ∧ zs.length = cap ∧ (∀ i, i < zs.length → w.cell? (a.add i) = some (.int .i64 (zs.getD i 0))))
    (a1 : Int) (w1 : (Lit.int .i64 a1).wf = true) :
    Calls Try.prog 3 #[.slice a0 len cap, .int .i64 a1] w (Fine w) := by
  have hJ : ∀ b, (fun b => b < w.heap.size) b → b < w.heap.size := fun _ h => h
  have htb : ∀ (ρ : Ev) (j : Nat), TbOk ρ [] (Go.Dv.run tree.get (j + 0)) := fun _ _ => .nil
  rcases hx with ⟨rfl, rfl, rfl⟩ | ⟨ad, zs, rfl, hl, hz, hcell⟩
  · exact law_tb2 orders ok (fact_of (sum0 (ev a1 []) (wrap_wf w1))) (htb _) (fast_tb run0) hJ (by
      simp only [List.map_cons, List.map_nil, den_d, den_nils, den_int, E.den, ev]
      exact args_d .nils (args_d (.int .i64 a1) args_none))
  · by_cases h0 : len = 0
    · subst h0
      exact law_tb2 orders ok (fact_of (sum0 (ev a1 []) (wrap_wf w1))) (htb _) (fast_tb runE) hJ (by
        simp only [List.map_cons, List.map_nil, den_d, den_emp, den_int, E.den, ev]
        exact args_emp (args_d (.int .i64 a1) args_none))
    · have hb : ad.block < w.heap.size := by
        have h1 := hcell 0 (by omega)
        have h2 : w.cell? ad = some (.int .i64 (zs.getD 0 0)) := h1
        unfold World.cell? at h2
        split at h2
        · rename_i c ty fr hc
          exact (Array.getElem?_eq_some_iff.1 hc).1
        · cases h2
      have hx : ∀ n, n ≤ len → ∀ L, vars n ++ (((zs.take len).drop n).map fun z => [FT.int .i64 (.lit z)]) = L →
          CRel (fun _ => none) (fun b => b < w.heap.size) w (([.d (.lst 1 L), .d (.int .i64 (.var 0))] : List FV).map (FV.den (ev a1 zs))) (#[.slice (some ad) len cap, .int .i64 a1] : Array Value).toList := by
        intro n hn L hL
        subst hL
        have hlen : (zs.take len).length = len := by rw [List.length_take]; omega
        simp only [List.map_cons, List.map_nil, den_d, den_lst, den_int, E.den]
        rw [den_vars a1 (l := zs.take len) (by omega) (fun i hi => by
          rw [List.getElem_take, List.getD_eq_getElem?_getD, List.getElem?_eq_getElem (by omega)]; rfl)]
        exact args_d (rel_ints hl hz (by omega) hb hcell) (args_d (.int .i64 a1) args_none)
      have hd : (zs.take len).drop len = [] := List.drop_eq_nil_of_le (by rw [List.length_take]; omega)
      by_cases h11 : 11 ≤ len
      · exact law_tb2 orders ok (fact_of (sum10 (ev a1 zs))) (htb _) (fast_tb (runL (((zs.take len).drop 11).map fun z => [FT.int .i64 (.lit z)]))) hJ (hx 11 h11 _ rfl)
      · have hs : len = 1 ∨ len = 2 ∨ len = 3 ∨ len = 4 ∨ len = 5 ∨ len = 6 ∨ len = 7 ∨ len = 8 ∨ len = 9 ∨ len = 10 := by omega
        have hx' := hx len (Nat.le_refl _)
        rw [hd] at hx'
        clear hx hd hl hz hcell
        rcases hs with rfl | rfl | rfl | rfl | rfl | rfl | rfl | rfl | rfl | rfl
        · exact law_tb2 orders ok (fact_of (sum1 (ev a1 zs))) (htb _) (fast_tb run1) hJ (hx' _ rfl)
        · exact law_tb2 orders ok (fact_of (sum2 (ev a1 zs))) (htb _) (fast_tb run2) hJ (hx' _ rfl)
        · exact law_tb2 orders ok (fact_of (sum3 (ev a1 zs))) (htb _) (fast_tb run3) hJ (hx' _ rfl)
        · exact law_tb2 orders ok (fact_of (sum4 (ev a1 zs))) (htb _) (fast_tb run4) hJ (hx' _ rfl)
        · exact law_tb2 orders ok (fact_of (sum5 (ev a1 zs))) (htb _) (fast_tb run5) hJ (hx' _ rfl)
        · exact law_tb2 orders ok (fact_of (sum6 (ev a1 zs))) (htb _) (fast_tb run6) hJ (hx' _ rfl)
        · exact law_tb2 orders ok (fact_of (sum7 (ev a1 zs))) (htb _) (fast_tb run7) hJ (hx' _ rfl)
        · exact law_tb2 orders ok (fact_of (sum8 (ev a1 zs))) (htb _) (fast_tb run8) hJ (hx' _ rfl)
        · exact law_tb2 orders ok (fact_of (sum9 (ev a1 zs))) (htb _) (fast_tb run9) hJ (hx' _ rfl)
        · exact law_tb2 orders ok (fact_of (sum10 (ev a1 zs))) (htb _) (fast_tb run10) hJ (hx' _ rfl)

end Go.Dv.DeadSalvagesWalk
