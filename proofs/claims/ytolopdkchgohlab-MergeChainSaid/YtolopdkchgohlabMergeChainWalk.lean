/- The law's function returns true and leaves what was there as it was. No condition. -/
import Derived.Test.YtolopdkchgohlabPmcOk
import Derived.Test.YtolopdkchgohlabDfN
import Derived.Test.YtolopdkchgohlabMergeChainCodes
import Derived.Test.YtolopdkchgohlabMergeChainChka
import Derived.Test.YtolopdkchgohlabMergeChainChkb
import Derived.Test.YtolopdkchgohlabMergeChainChkc
import Derived.Test.YtolopdkchgohlabMergeChainRuna
import Derived.Test.YtolopdkchgohlabMergeChainRunb
import Derived.Test.YtolopdkchgohlabMergeChainRunc
import Derived.Test.YtolopdkchgohlabMergeChainRund
import Derived.Test.YtolopdkchgohlabMergeChainRune
import Derived.Test.YtolopdkchgohlabMergeChainRunf
import Derived.Test.YtolopdkchgohlabMergeChainRung
import Derived.Test.YtolopdkchgohlabMergeChainRunh
import Derived.Test.YtolopdkchgohlabMergeChainRuni
namespace Go.Dv.MergeChainWalk
open Go Go.Df Go.Proofs Go.RowKit Go.Dv.Pmc
set_option linter.unusedSimpArgs false

theorem rem_den (ρ : Ev) : E.den ρ rem30 = (ρ 0).tmod 30 := rfl

/-- What is left is a number from 0 to 29. -/
theorem mod_at (a : Int) (h : (Lit.int .i64 a).wf = true) : ∃ k : Nat, k < 30 ∧ ∃ (b : Bool) (r : FV), FactsOk (fun _ => a) [(.lss, rem30, .lit 0, b)] ∧ r.den (fun _ => a) = .d (.int .i64 (k : Int)) ∧
    resF? (runR [(.lss, rem30, .lit 0, b)] [] (getK tree) 50 (.fn 4) [.d (.int .i64 (.var 0)), .d (.int .i64 (.lit 30))] .nil 0) = some r := by
  have h1 := Int.tmod_lt_of_pos a (show (0 : Int) < 30 by omega)
  have h2 : -30 < a.tmod 30 := by
    have := Int.tmod_lt_of_pos (-a) (show (0 : Int) < 30 by omega)
    rw [Int.neg_tmod] at this
    omega
  by_cases hn : a.tmod 30 < 0
  · refine ⟨(a.tmod 30 + 30).toNat, by omega, true, _, facts_cons (by show some (V.bool (decide (a.tmod 30 < 0))) = _; rw [decide_eq_true hn]) facts_nil, ?_, modLow⟩
    have e : E.den (fun _ => a) (.bin .add .i64 rem30 (.lit 30)) = IntKind.i64.wrap (a.tmod 30 + 30) := rfl
    have e2 : ((a.tmod 30 + 30).toNat : Int) = a.tmod 30 + 30 := by omega
    have e3 : IntKind.i64.wrap (a.tmod 30 + 30) = a.tmod 30 + 30 := by
      rw [← e2]
      exact wrap_small (n := (a.tmod 30 + 30).toNat) (by omega)
    rw [den_d, den_int, e, e3, e2]
  · refine ⟨(a.tmod 30).toNat, by omega, false, _, facts_cons (by show some (V.bool (decide (a.tmod 30 < 0))) = _; rw [decide_eq_false hn]) facts_nil, ?_, modHigh⟩
    have e2 : ((a.tmod 30).toNat : Int) = a.tmod 30 := by omega
    rw [den_d, den_int, e2]
    rfl

theorem tb_as {ρ : Ev} {tb : Tbl} {f : Nat} {args : List FV} {r r' : FV} {cl : Caller} (he : r.den ρ = r'.den ρ) (h : TbOk ρ ((f, args, r) :: tb) cl) : TbOk ρ ((f, args, r') :: tb) cl := by
  intro p hp
  rcases List.mem_cons.1 hp with rfl | hp
  · have := h _ (List.mem_cons_self ..)
    simp only at this ⊢
    rw [this, he]
  · exact h p (List.mem_cons_of_mem _ hp)

theorem tb_join {ρ : Ev} {fs : Funcs} {A B : Tbl} {m n : Nat} (ha : ∀ j, TbOk ρ A (Go.Dv.run fs (j + m))) (hb : ∀ j, TbOk ρ B (Go.Dv.run fs (j + n))) : ∀ j, TbOk ρ (A ++ B) (Go.Dv.run fs (j + (m + n))) := by
  intro j p hp
  rcases List.mem_append.1 hp with h | h
  · have := ha (j + n)
    rw [show j + n + m = j + (m + n) by omega] at this
    exact this p h
  · have := hb (j + m)
    rw [show j + m + n = j + (m + n) by omega] at this
    exact this p h

theorem tb_one {ρ : Ev} {fc : Facts} (hf : FactsOk ρ fc) {n f : Nat} {args : List FV} {r r' : FV} (e : resF? (runR fc [] (getK tree) n (.fn f) args .nil 0) = some r) (hr : r.den ρ = r'.den ρ) : ∀ j, TbOk ρ [(f, args, r')] (Go.Dv.run tree.get (j + (0 + n))) :=
  fun j => tb_as hr (tb_cons hf (k := 0) (fun _ => .nil) (swift_res e) j)

theorem tbl_ok {a : Int} {b : Bool} {r : FV} {k : Nat} (hf : FactsOk (fun _ => a) [(.lss, rem30, .lit 0, b)]) (hr : r.den (fun _ => a) = .d (.int .i64 (k : Int)))
    (e : resF? (runR [(.lss, rem30, .lit 0, b)] [] (getK tree) 50 (.fn 4) [.d (.int .i64 (.var 0)), .d (.int .i64 (.lit 30))] .nil 0) = some r) {x y : FV}
    (ha : resF? (runR [] [] (getK tree) 500 (.fn 11) [x] .nil 0) = some (.d (.int .i64 (.lit 0)))) (hb : resF? (runR [] [] (getK tree) 500 (.fn 22) [y] .nil 0) = some (.d (.int .i64 (.lit 0)))) :
    ∀ j, TbOk (fun _ => a) [(4, [.d (.int .i64 (.var 0)), .d (.int .i64 (.lit 30))], .d (.int .i64 (.lit (k : Int)))), (9, [], .d (.bool true)), (11, [x], .d (.int .i64 (.lit 0))), (22, [y], .d (.int .i64 (.lit 0)))] (Go.Dv.run tree.get (j + ((0 + 50) + ((0 + 200) + ((0 + 500) + (0 + 500)))))) :=
  tb_join (tb_one hf e (by rw [hr, den_d, den_int]; rfl)) (tb_join (tb_one facts_nil knownRun rfl) (tb_join (tb_one facts_nil ha rfl) (tb_one facts_nil hb rfl)))

abbrev Fine (w : World) (e : Ending) (w' : World) : Prop := e = .returned (.bool true) ∧ Grown w w' ∧ Below w.heap.size w w'

theorem walk (w : World) (a0 : Int) (w0 : (Lit.int .i64 a0).wf = true) {a1 : Option Addr} {len cap : Nat}
    (_ : (a1 = none ∧ len = 0 ∧ cap = 0) ∨ ∃ (a : Addr) (zs : List Int), a1 = some a ∧ len ≤ cap ∧ zs.length = cap ∧ (∀ i, i < zs.length → w.cell? (a.add i) = some (.int .i64 (zs.getD i 0)))) :
    Calls Try.prog 3 #[.int .i64 a0, .slice a1 len cap] w (Fine w) := by
  have hJ : ∀ b, (fun b => b < w.heap.size) b → b < w.heap.size := fun _ h => h
  have hx : CRel (fun _ => none) (fun b => b < w.heap.size) w (([.d (.int .i64 (.var 0)), .opq] : List FV).map (FV.den (fun _ => a0))) (#[.int .i64 a0, .slice a1 len cap] : Array Value).toList := by
    simp only [List.map_cons, List.map_nil, den_d, den_opq, den_int, E.den]
    exact args_d (.int .i64 a0) (args_opq rfl (fun b h => by cases h) args_none)
  obtain ⟨k, hk, b, r, hf, hr, e⟩ := mod_at a0 w0
  have hs : k = 0 ∨ k = 1 ∨ k = 2 ∨ k = 3 ∨ k = 4 ∨ k = 5 ∨ k = 6 ∨ k = 7 ∨ k = 8 ∨ k = 9 ∨ k = 10 ∨ k = 11 ∨ k = 12 ∨ k = 13 ∨ k = 14 ∨ k = 15 ∨ k = 16 ∨ k = 17 ∨ k = 18 ∨ k = 19 ∨ k = 20 ∨ k = 21 ∨ k = 22 ∨ k = 23 ∨ k = 24 ∨ k = 25 ∨ k = 26 ∨ k = 27 ∨ k = 28 ∨ k = 29 := by omega
  rcases hs with rfl | rfl | rfl | rfl | rfl | rfl | rfl | rfl | rfl | rfl | rfl | rfl | rfl | rfl | rfl | rfl | rfl | rfl | rfl | rfl | rfl | rfl | rfl | rfl | rfl | rfl | rfl | rfl | rfl | rfl
  · exact law_tb2 orders ok facts_nil (tbl_ok hf hr e ca0 cb0) (swift_tb run0) hJ hx
  · exact law_tb2 orders ok facts_nil (tbl_ok hf hr e ca1 cb1) (swift_tb run1) hJ hx
  · exact law_tb2 orders ok facts_nil (tbl_ok hf hr e ca2 cb2) (swift_tb run2) hJ hx
  · exact law_tb2 orders ok facts_nil (tbl_ok hf hr e ca3 cb3) (swift_tb run3) hJ hx
  · exact law_tb2 orders ok facts_nil (tbl_ok hf hr e ca4 cb4) (swift_tb run4) hJ hx
  · exact law_tb2 orders ok facts_nil (tbl_ok hf hr e ca5 cb5) (swift_tb run5) hJ hx
  · exact law_tb2 orders ok facts_nil (tbl_ok hf hr e ca6 cb6) (swift_tb run6) hJ hx
  · exact law_tb2 orders ok facts_nil (tbl_ok hf hr e ca7 cb7) (swift_tb run7) hJ hx
  · exact law_tb2 orders ok facts_nil (tbl_ok hf hr e ca8 cb8) (swift_tb run8) hJ hx
  · exact law_tb2 orders ok facts_nil (tbl_ok hf hr e ca9 cb9) (swift_tb run9) hJ hx
  · exact law_tb2 orders ok facts_nil (tbl_ok hf hr e ca10 cb10) (swift_tb run10) hJ hx
  · exact law_tb2 orders ok facts_nil (tbl_ok hf hr e ca11 cb11) (swift_tb run11) hJ hx
  · exact law_tb2 orders ok facts_nil (tbl_ok hf hr e ca12 cb12) (swift_tb run12) hJ hx
  · exact law_tb2 orders ok facts_nil (tbl_ok hf hr e ca13 cb13) (swift_tb run13) hJ hx
  · exact law_tb2 orders ok facts_nil (tbl_ok hf hr e ca14 cb14) (swift_tb run14) hJ hx
  · exact law_tb2 orders ok facts_nil (tbl_ok hf hr e ca15 cb15) (swift_tb run15) hJ hx
  · exact law_tb2 orders ok facts_nil (tbl_ok hf hr e ca16 cb16) (swift_tb run16) hJ hx
  · exact law_tb2 orders ok facts_nil (tbl_ok hf hr e ca17 cb17) (swift_tb run17) hJ hx
  · exact law_tb2 orders ok facts_nil (tbl_ok hf hr e ca18 cb18) (swift_tb run18) hJ hx
  · exact law_tb2 orders ok facts_nil (tbl_ok hf hr e ca19 cb19) (swift_tb run19) hJ hx
  · exact law_tb2 orders ok facts_nil (tbl_ok hf hr e ca20 cb20) (swift_tb run20) hJ hx
  · exact law_tb2 orders ok facts_nil (tbl_ok hf hr e ca21 cb21) (swift_tb run21) hJ hx
  · exact law_tb2 orders ok facts_nil (tbl_ok hf hr e ca22 cb22) (swift_tb run22) hJ hx
  · exact law_tb2 orders ok facts_nil (tbl_ok hf hr e ca23 cb23) (swift_tb run23) hJ hx
  · exact law_tb2 orders ok facts_nil (tbl_ok hf hr e ca24 cb24) (swift_tb run24) hJ hx
  · exact law_tb2 orders ok facts_nil (tbl_ok hf hr e ca25 cb25) (swift_tb run25) hJ hx
  · exact law_tb2 orders ok facts_nil (tbl_ok hf hr e ca26 cb26) (swift_tb run26) hJ hx
  · exact law_tb2 orders ok facts_nil (tbl_ok hf hr e ca27 cb27) (swift_tb run27) hJ hx
  · exact law_tb2 orders ok facts_nil (tbl_ok hf hr e ca28 cb28) (swift_tb run28) hJ hx
  · exact law_tb2 orders ok facts_nil (tbl_ok hf hr e ca29 cb29) (swift_tb run29) hJ hx

end Go.Dv.MergeChainWalk
