/- The law's function returns true. No condition. -/
import Derived.Test.YtolopdkchgohlaaPamOk
import Derived.Test.YtolopdkchgohlaaDfN
import Derived.Test.YtolopdkchgohlaaAllocManyMod
import Derived.Test.YtolopdkchgohlaaAllocManyRuna
import Derived.Test.YtolopdkchgohlaaAllocManyRunb
import Derived.Test.YtolopdkchgohlaaAllocManyRunc
import Derived.Test.YtolopdkchgohlaaAllocManyRund
import Derived.Test.YtolopdkchgohlaaAllocManyRune
import Derived.Test.YtolopdkchgohlaaAllocManyRunf
import Derived.Test.YtolopdkchgohlaaAllocManyRung
import Derived.Test.YtolopdkchgohlaaAllocManyRunh
import Derived.Test.YtolopdkchgohlaaAllocManyRuni
import Derived.Test.YtolopdkchgohlaaAllocManyRunj
import Derived.Test.YtolopdkchgohlaaAllocManyRunk
import Derived.Test.YtolopdkchgohlaaAllocManyRunl
import Derived.Test.YtolopdkchgohlaaAllocManyRunm
import Derived.Test.YtolopdkchgohlaaAllocManyRunn
import Derived.Test.YtolopdkchgohlaaAllocManyRuno
import Derived.Test.YtolopdkchgohlaaAllocManyRunp
namespace Go.Dv.AllocManyWalk
open Go Go.Df Go.Proofs Go.RowKit Go.Dv.Pam
set_option linter.unusedSimpArgs false

def ev2 (a b : Int) : Ev
  | 0 => a
  | _ => b

theorem tb_as {ρ : Ev} {tb : Tbl} {f : Nat} {args : List FV} {r r' : FV} {cl : Caller} (he : r.den ρ = r'.den ρ) (h : TbOk ρ ((f, args, r) :: tb) cl) : TbOk ρ ((f, args, r') :: tb) cl := by
  intro p hp
  rcases List.mem_cons.1 hp with rfl | hp
  · have := h _ (List.mem_cons_self ..)
    simp only at this ⊢
    rw [this, he]
  · exact h p (List.mem_cons_of_mem _ hp)

theorem tb_join {ρ : Ev} {fs : Funcs} {A B : Tbl} {m n : Nat} (ha : ∀ j, TbOk ρ A (Go.Dv.run fs (j + m))) (hb : ∀ j, TbOk ρ B (Go.Dv.run fs (j + n))) : ∀ j, TbOk ρ (A ++ B) (Go.Dv.run fs (j + (m + n))) := by
  intro j p hp
  rcases List.mem_append.1 hp with h | h
  · have := ha (j + n)
    rw [show j + n + m = j + (m + n) by omega] at this
    exact this p h
  · have := hb (j + m)
    rw [show j + m + n = j + (m + n) by omega] at this
    exact this p h

theorem tb_one {ρ : Ev} {fc : Facts} (hf : FactsOk ρ fc) {n f : Nat} {args : List FV} {r r' : FV} (e : resF? (runR fc [] (getK tree) n (.fn f) args .nil 0) = some r) (hr : r.den ρ = r'.den ρ) : ∀ j, TbOk ρ [(f, args, r')] (Go.Dv.run tree.get (j + (0 + n))) :=
  fun j => tb_as hr (tb_cons hf (k := 0) (fun _ => .nil) (swift_res e) j)

/-- What is left is a number from 0 to 29. -/
theorem modA (ρ : Ev) : ∃ k : Nat, k < 30 ∧ ∀ j, TbOk ρ [(4, [.d (.int .i64 (.var 0)), .d (.int .i64 (.lit 30))], .d (.int .i64 (.lit (.ofNat k))))] (Go.Dv.run tree.get (j + (0 + 50))) := by
  have h1 := Int.tmod_lt_of_pos (ρ 0) (show (0 : Int) < 30 by omega)
  have h2 : -30 < (ρ 0).tmod 30 := by
    have := Int.tmod_lt_of_pos (-(ρ 0)) (show (0 : Int) < 30 by omega)
    rw [Int.neg_tmod] at this
    omega
  by_cases hn : (ρ 0).tmod 30 < 0
  · refine ⟨((ρ 0).tmod 30 + 30).toNat, by omega, tb_one (facts_cons (by show some (V.bool (decide ((ρ 0).tmod 30 < 0))) = _; rw [decide_eq_true hn]) facts_nil) lowA ?_⟩
    have e : E.den ρ (.bin .add .i64 remA (.lit 30)) = IntKind.i64.wrap ((ρ 0).tmod 30 + 30) := rfl
    have e2 : (((ρ 0).tmod 30 + 30).toNat : Int) = (ρ 0).tmod 30 + 30 := by omega
    have e3 : IntKind.i64.wrap ((ρ 0).tmod 30 + 30) = (ρ 0).tmod 30 + 30 := by
      rw [← e2]
      exact wrap_small (n := ((ρ 0).tmod 30 + 30).toNat) (by omega)
    rw [den_d, den_int, den_d, den_int, e, e3, ← e2]
    rfl
  · refine ⟨((ρ 0).tmod 30).toNat, by omega, tb_one (facts_cons (by show some (V.bool (decide ((ρ 0).tmod 30 < 0))) = _; rw [decide_eq_false hn]) facts_nil) highA ?_⟩
    have e2 : (((ρ 0).tmod 30).toNat : Int) = (ρ 0).tmod 30 := by omega
    rw [den_d, den_int, den_d, den_int]
    show V.d (.int .i64 ((ρ 0).tmod 30)) = .d (.int .i64 (((ρ 0).tmod 30).toNat : Int))
    rw [e2]

/-- What is left is a number from 0 to 4. -/
theorem modB (ρ : Ev) : ∃ k : Nat, k < 5 ∧ ∀ j, TbOk ρ [(4, [.d (.int .i64 (.var 1)), .d (.int .i64 (.lit 5))], .d (.int .i64 (.lit (.ofNat k))))] (Go.Dv.run tree.get (j + (0 + 50))) := by
  have h1 := Int.tmod_lt_of_pos (ρ 1) (show (0 : Int) < 5 by omega)
  have h2 : -5 < (ρ 1).tmod 5 := by
    have := Int.tmod_lt_of_pos (-(ρ 1)) (show (0 : Int) < 5 by omega)
    rw [Int.neg_tmod] at this
    omega
  by_cases hn : (ρ 1).tmod 5 < 0
  · refine ⟨((ρ 1).tmod 5 + 5).toNat, by omega, tb_one (facts_cons (by show some (V.bool (decide ((ρ 1).tmod 5 < 0))) = _; rw [decide_eq_true hn]) facts_nil) lowB ?_⟩
    have e : E.den ρ (.bin .add .i64 remB (.lit 5)) = IntKind.i64.wrap ((ρ 1).tmod 5 + 5) := rfl
    have e2 : (((ρ 1).tmod 5 + 5).toNat : Int) = (ρ 1).tmod 5 + 5 := by omega
    have e3 : IntKind.i64.wrap ((ρ 1).tmod 5 + 5) = (ρ 1).tmod 5 + 5 := by
      rw [← e2]
      exact wrap_small (n := ((ρ 1).tmod 5 + 5).toNat) (by omega)
    rw [den_d, den_int, den_d, den_int, e, e3, ← e2]
    rfl
  · refine ⟨((ρ 1).tmod 5).toNat, by omega, tb_one (facts_cons (by show some (V.bool (decide ((ρ 1).tmod 5 < 0))) = _; rw [decide_eq_false hn]) facts_nil) highB ?_⟩
    have e2 : (((ρ 1).tmod 5).toNat : Int) = (ρ 1).tmod 5 := by omega
    rw [den_d, den_int, den_d, den_int]
    show V.d (.int .i64 ((ρ 1).tmod 5)) = .d (.int .i64 (((ρ 1).tmod 5).toNat : Int))
    rw [e2]

theorem run_all (k p : Nat) (hk : k < 30) (hp : p < 5) : isTrueF (runR [] (tbl k p) (getK tree) 400 (.fn 3) [.d (.int .i64 (.var 0)), .d (.int .i64 (.var 1))] .nil 0) = true := by
  have hs : p = 0 ∨ p = 1 ∨ p = 2 ∨ p = 3 ∨ p = 4 := by omega
  have ht : k = 0 ∨ k = 1 ∨ k = 2 ∨ k = 3 ∨ k = 4 ∨ k = 5 ∨ k = 6 ∨ k = 7 ∨ k = 8 ∨ k = 9 ∨ k = 10 ∨ k = 11 ∨ k = 12 ∨ k = 13 ∨ k = 14 ∨ k = 15 ∨ k = 16 ∨ k = 17 ∨ k = 18 ∨ k = 19 ∨ k = 20 ∨ k = 21 ∨ k = 22 ∨ k = 23 ∨ k = 24 ∨ k = 25 ∨ k = 26 ∨ k = 27 ∨ k = 28 ∨ k = 29 := by omega
  rcases ht with rfl | rfl | rfl | rfl | rfl | rfl | rfl | rfl | rfl | rfl | rfl | rfl | rfl | rfl | rfl | rfl | rfl | rfl | rfl | rfl | rfl | rfl | rfl | rfl | rfl | rfl | rfl | rfl | rfl | rfl
  · rcases hs with rfl | rfl | rfl | rfl | rfl
    · exact run0_0
    · exact run0_1
    · exact run0_2
    · exact run0_3
    · exact run0_4
  · rcases hs with rfl | rfl | rfl | rfl | rfl
    · exact run1_0
    · exact run1_1
    · exact run1_2
    · exact run1_3
    · exact run1_4
  · rcases hs with rfl | rfl | rfl | rfl | rfl
    · exact run2_0
    · exact run2_1
    · exact run2_2
    · exact run2_3
    · exact run2_4
  · rcases hs with rfl | rfl | rfl | rfl | rfl
    · exact run3_0
    · exact run3_1
    · exact run3_2
    · exact run3_3
    · exact run3_4
  · rcases hs with rfl | rfl | rfl | rfl | rfl
    · exact run4_0
    · exact run4_1
    · exact run4_2
    · exact run4_3
    · exact run4_4
  · rcases hs with rfl | rfl | rfl | rfl | rfl
    · exact run5_0
    · exact run5_1
    · exact run5_2
    · exact run5_3
    · exact run5_4
  · rcases hs with rfl | rfl | rfl | rfl | rfl
    · exact run6_0
    · exact run6_1
    · exact run6_2
    · exact run6_3
    · exact run6_4
  · rcases hs with rfl | rfl | rfl | rfl | rfl
    · exact run7_0
    · exact run7_1
    · exact run7_2
    · exact run7_3
    · exact run7_4
  · rcases hs with rfl | rfl | rfl | rfl | rfl
    · exact run8_0
    · exact run8_1
    · exact run8_2
    · exact run8_3
    · exact run8_4
  · rcases hs with rfl | rfl | rfl | rfl | rfl
    · exact run9_0
    · exact run9_1
    · exact run9_2
    · exact run9_3
    · exact run9_4
  · rcases hs with rfl | rfl | rfl | rfl | rfl
    · exact run10_0
    · exact run10_1
    · exact run10_2
    · exact run10_3
    · exact run10_4
  · rcases hs with rfl | rfl | rfl | rfl | rfl
    · exact run11_0
    · exact run11_1
    · exact run11_2
    · exact run11_3
    · exact run11_4
  · rcases hs with rfl | rfl | rfl | rfl | rfl
    · exact run12_0
    · exact run12_1
    · exact run12_2
    · exact run12_3
    · exact run12_4
  · rcases hs with rfl | rfl | rfl | rfl | rfl
    · exact run13_0
    · exact run13_1
    · exact run13_2
    · exact run13_3
    · exact run13_4
  · rcases hs with rfl | rfl | rfl | rfl | rfl
    · exact run14_0
    · exact run14_1
    · exact run14_2
    · exact run14_3
    · exact run14_4
  · rcases hs with rfl | rfl | rfl | rfl | rfl
    · exact run15_0
    · exact run15_1
    · exact run15_2
    · exact run15_3
    · exact run15_4
  · rcases hs with rfl | rfl | rfl | rfl | rfl
    · exact run16_0
    · exact run16_1
    · exact run16_2
    · exact run16_3
    · exact run16_4
  · rcases hs with rfl | rfl | rfl | rfl | rfl
    · exact run17_0
    · exact run17_1
    · exact run17_2
    · exact run17_3
    · exact run17_4
  · rcases hs with rfl | rfl | rfl | rfl | rfl
    · exact run18_0
    · exact run18_1
    · exact run18_2
    · exact run18_3
    · exact run18_4
  · rcases hs with rfl | rfl | rfl | rfl | rfl
    · exact run19_0
    · exact run19_1
    · exact run19_2
    · exact run19_3
    · exact run19_4
  · rcases hs with rfl | rfl | rfl | rfl | rfl
    · exact run20_0
    · exact run20_1
    · exact run20_2
    · exact run20_3
    · exact run20_4
  · rcases hs with rfl | rfl | rfl | rfl | rfl
    · exact run21_0
    · exact run21_1
    · exact run21_2
    · exact run21_3
    · exact run21_4
  · rcases hs with rfl | rfl | rfl | rfl | rfl
    · exact run22_0
    · exact run22_1
    · exact run22_2
    · exact run22_3
    · exact run22_4
  · rcases hs with rfl | rfl | rfl | rfl | rfl
    · exact run23_0
    · exact run23_1
    · exact run23_2
    · exact run23_3
    · exact run23_4
  · rcases hs with rfl | rfl | rfl | rfl | rfl
    · exact run24_0
    · exact run24_1
    · exact run24_2
    · exact run24_3
    · exact run24_4
  · rcases hs with rfl | rfl | rfl | rfl | rfl
    · exact run25_0
    · exact run25_1
    · exact run25_2
    · exact run25_3
    · exact run25_4
  · rcases hs with rfl | rfl | rfl | rfl | rfl
    · exact run26_0
    · exact run26_1
    · exact run26_2
    · exact run26_3
    · exact run26_4
  · rcases hs with rfl | rfl | rfl | rfl | rfl
    · exact run27_0
    · exact run27_1
    · exact run27_2
    · exact run27_3
    · exact run27_4
  · rcases hs with rfl | rfl | rfl | rfl | rfl
    · exact run28_0
    · exact run28_1
    · exact run28_2
    · exact run28_3
    · exact run28_4
  · rcases hs with rfl | rfl | rfl | rfl | rfl
    · exact run29_0
    · exact run29_1
    · exact run29_2
    · exact run29_3
    · exact run29_4

theorem walk (a0 : Int) (_ : (Lit.int .i64 a0).wf = true) (a1 : Int) (_ : (Lit.int .i64 a1).wf = true) (w : World) : Calls Try.prog 3 #[.int .i64 a0, .int .i64 a1] w fun e w' => e = .returned (.bool true) ∧ Grown w w' := by
  have hx : CRel (fun _ => none) (fun _ => False) w (([.d (.int .i64 (.var 0)), .d (.int .i64 (.var 1))] : List FV).map (FV.den (ev2 a0 a1))) (#[.int .i64 a0, .int .i64 a1] : Array Value).toList := by
    simp only [List.map_cons, List.map_nil, den_d, den_int, E.den]
    exact args_int (args_int args_nil)
  obtain ⟨k, hk, ta⟩ := modA (ev2 a0 a1)
  obtain ⟨p, hp, tb⟩ := modB (ev2 a0 a1)
  exact law_tb orders ok facts_nil (tb_join ta (tb_join tb (tb_one facts_nil knownRun rfl))) (swift_tb (run_all k p hk hp)) hx

end Go.Dv.AllocManyWalk
