/- The law's function returns true. No condition. -/
import Derived.Test.YtjnllnigogpagadPucOk
import Derived.Test.YtjnllnigogpagadDfN
import Derived.Test.YtjnllnigogpagadUnrollCountsCodes
import Derived.Test.YtjnllnigogpagadUnrollCountsRuna
import Derived.Test.YtjnllnigogpagadUnrollCountsRunb
import Derived.Test.YtjnllnigogpagadUnrollCountsRunc
import Derived.Test.YtjnllnigogpagadUnrollCountsRund
import Derived.Test.YtjnllnigogpagadUnrollCountsRune
import Derived.Test.YtjnllnigogpagadUnrollCountsRunf
import Derived.Test.YtjnllnigogpagadUnrollCountsRung
import Derived.Test.YtjnllnigogpagadUnrollCountsRunh
import Derived.Test.YtjnllnigogpagadUnrollCountsRuni
import Derived.Test.YtjnllnigogpagadUnrollCountsRunj
import Derived.Test.YtjnllnigogpagadUnrollCountsRunk
import Derived.Test.YtjnllnigogpagadUnrollCountsRunl
import Derived.Test.YtjnllnigogpagadUnrollCountsRunm
import Derived.Test.YtjnllnigogpagadUnrollCountsRunn
import Derived.Test.YtjnllnigogpagadUnrollCountsRuno
namespace Go.Dv.UnrollCountsWalk
open Go Go.Df Go.Proofs Go.RowKit Go.Dv.Puc
set_option linter.unusedSimpArgs false

theorem tb_as {ρ : Ev} {tb : Tbl} {f : Nat} {args : List FV} {r r' : FV} {cl : Caller} (he : r.den ρ = r'.den ρ) (h : TbOk ρ ((f, args, r) :: tb) cl) : TbOk ρ ((f, args, r') :: tb) cl := by
  intro p hp
  rcases List.mem_cons.1 hp with rfl | hp
  · have := h _ (List.mem_cons_self ..)
    simp only at this ⊢
    rw [this, he]
  · exact h p (List.mem_cons_of_mem _ hp)

theorem tb_join {ρ : Ev} {fs : Funcs} {A B : Tbl} {m n : Nat} (ha : ∀ j, TbOk ρ A (Go.Dv.run fs (j + m))) (hb : ∀ j, TbOk ρ B (Go.Dv.run fs (j + n))) : ∀ j, TbOk ρ (A ++ B) (Go.Dv.run fs (j + (m + n))) := by
  intro j p hp
  rcases List.mem_append.1 hp with h | h
  · have := ha (j + n)
    rw [show j + n + m = j + (m + n) by omega] at this
    exact this p h
  · have := hb (j + m)
    rw [show j + m + n = j + (m + n) by omega] at this
    exact this p h

theorem tb_one {ρ : Ev} {fc : Facts} (hf : FactsOk ρ fc) {n f : Nat} {args : List FV} {r r' : FV} (e : resF? (runR fc [] (getK tree) n (.fn f) args .nil 0) = some r) (hr : r.den ρ = r'.den ρ) : ∀ j, TbOk ρ [(f, args, r')] (Go.Dv.run tree.get (j + (0 + n))) :=
  fun j => tb_as hr (tb_cons hf (k := 0) (fun _ => .nil) (swift_res e) j)

/-- What is left is a number from 0 to 99. -/
theorem modA (ρ : Ev) : ∃ k : Nat, k < 100 ∧ ∀ j, TbOk ρ [(4, [.d (.int .i64 (.var 0)), .d (.int .i64 (.lit 100))], .d (.int .i64 (.lit (.ofNat k))))] (Go.Dv.run tree.get (j + (0 + 50))) := by
  have h1 := Int.tmod_lt_of_pos (ρ 0) (show (0 : Int) < 100 by omega)
  have h2 : -100 < (ρ 0).tmod 100 := by
    have := Int.tmod_lt_of_pos (-(ρ 0)) (show (0 : Int) < 100 by omega)
    rw [Int.neg_tmod] at this
    omega
  by_cases hn : (ρ 0).tmod 100 < 0
  · refine ⟨((ρ 0).tmod 100 + 100).toNat, by omega, tb_one (facts_cons (by show some (V.bool (decide ((ρ 0).tmod 100 < 0))) = _; rw [decide_eq_true hn]) facts_nil) modLow ?_⟩
    have e : E.den ρ (.bin .add .i64 rem100 (.lit 100)) = IntKind.i64.wrap ((ρ 0).tmod 100 + 100) := rfl
    have e2 : (((ρ 0).tmod 100 + 100).toNat : Int) = (ρ 0).tmod 100 + 100 := by omega
    have e3 : IntKind.i64.wrap ((ρ 0).tmod 100 + 100) = (ρ 0).tmod 100 + 100 := by
      rw [← e2]
      exact wrap_small (n := ((ρ 0).tmod 100 + 100).toNat) (by omega)
    rw [den_d, den_int, den_d, den_int, e, e3, ← e2]
    rfl
  · refine ⟨((ρ 0).tmod 100).toNat, by omega, tb_one (facts_cons (by show some (V.bool (decide ((ρ 0).tmod 100 < 0))) = _; rw [decide_eq_false hn]) facts_nil) modHigh ?_⟩
    have e2 : (((ρ 0).tmod 100).toNat : Int) = (ρ 0).tmod 100 := by omega
    rw [den_d, den_int, den_d, den_int]
    show V.d (.int .i64 ((ρ 0).tmod 100)) = .d (.int .i64 (((ρ 0).tmod 100).toNat : Int))
    rw [e2]

theorem run_all (k : Nat) (hk : k < 100) : isTrueF (runR [] (tbl k) (getK tree) 700 (.fn 3) [.d (.int .i64 (.var 0))] .nil 0) = true := by
  obtain ⟨a, b, ha, hb, rfl⟩ : ∃ a b, a < 10 ∧ b < 10 ∧ k = 10 * a + b := ⟨k / 10, k % 10, by omega, by omega, by omega⟩
  have hA : a = 0 ∨ a = 1 ∨ a = 2 ∨ a = 3 ∨ a = 4 ∨ a = 5 ∨ a = 6 ∨ a = 7 ∨ a = 8 ∨ a = 9 := by omega
  have hB : b = 0 ∨ b = 1 ∨ b = 2 ∨ b = 3 ∨ b = 4 ∨ b = 5 ∨ b = 6 ∨ b = 7 ∨ b = 8 ∨ b = 9 := by omega
  rcases hA with rfl | rfl | rfl | rfl | rfl | rfl | rfl | rfl | rfl | rfl
  · rcases hB with rfl | rfl | rfl | rfl | rfl | rfl | rfl | rfl | rfl | rfl
    · exact run0
    · exact run1
    · exact run2
    · exact run3
    · exact run4
    · exact run5
    · exact run6
    · exact run7
    · exact run8
    · exact run9
  · rcases hB with rfl | rfl | rfl | rfl | rfl | rfl | rfl | rfl | rfl | rfl
    · exact run10
    · exact run11
    · exact run12
    · exact run13
    · exact run14
    · exact run15
    · exact run16
    · exact run17
    · exact run18
    · exact run19
  · rcases hB with rfl | rfl | rfl | rfl | rfl | rfl | rfl | rfl | rfl | rfl
    · exact run20
    · exact run21
    · exact run22
    · exact run23
    · exact run24
    · exact run25
    · exact run26
    · exact run27
    · exact run28
    · exact run29
  · rcases hB with rfl | rfl | rfl | rfl | rfl | rfl | rfl | rfl | rfl | rfl
    · exact run30
    · exact run31
    · exact run32
    · exact run33
    · exact run34
    · exact run35
    · exact run36
    · exact run37
    · exact run38
    · exact run39
  · rcases hB with rfl | rfl | rfl | rfl | rfl | rfl | rfl | rfl | rfl | rfl
    · exact run40
    · exact run41
    · exact run42
    · exact run43
    · exact run44
    · exact run45
    · exact run46
    · exact run47
    · exact run48
    · exact run49
  · rcases hB with rfl | rfl | rfl | rfl | rfl | rfl | rfl | rfl | rfl | rfl
    · exact run50
    · exact run51
    · exact run52
    · exact run53
    · exact run54
    · exact run55
    · exact run56
    · exact run57
    · exact run58
    · exact run59
  · rcases hB with rfl | rfl | rfl | rfl | rfl | rfl | rfl | rfl | rfl | rfl
    · exact run60
    · exact run61
    · exact run62
    · exact run63
    · exact run64
    · exact run65
    · exact run66
    · exact run67
    · exact run68
    · exact run69
  · rcases hB with rfl | rfl | rfl | rfl | rfl | rfl | rfl | rfl | rfl | rfl
    · exact run70
    · exact run71
    · exact run72
    · exact run73
    · exact run74
    · exact run75
    · exact run76
    · exact run77
    · exact run78
    · exact run79
  · rcases hB with rfl | rfl | rfl | rfl | rfl | rfl | rfl | rfl | rfl | rfl
    · exact run80
    · exact run81
    · exact run82
    · exact run83
    · exact run84
    · exact run85
    · exact run86
    · exact run87
    · exact run88
    · exact run89
  · rcases hB with rfl | rfl | rfl | rfl | rfl | rfl | rfl | rfl | rfl | rfl
    · exact run90
    · exact run91
    · exact run92
    · exact run93
    · exact run94
    · exact run95
    · exact run96
    · exact run97
    · exact run98
    · exact run99

theorem walk (a0 : Int) (_ : (Lit.int .i64 a0).wf = true) (w : World) : Calls Try.prog 3 #[.int .i64 a0] w fun e w' => e = .returned (.bool true) ∧ Grown w w' := by
  have hx : CRel (fun _ => none) (fun _ => False) w (([.d (.int .i64 (.var 0))] : List FV).map (FV.den (fun _ => a0))) (#[.int .i64 a0] : Array Value).toList := by
    simp only [List.map_cons, List.map_nil, den_d, den_int, E.den]
    exact args_int args_nil
  obtain ⟨k, hk, ta⟩ := modA (fun _ => a0)
  exact law_tb orders ok facts_nil (tb_join ta (tb_join (tb_one facts_nil knownRun rfl) (tb_join (tb_one facts_nil counterRun rfl) (tb_join (tb_one facts_nil unrollRun rfl) (tb_join (tb_one facts_nil againRun rfl) (tb_one facts_nil checkU rfl)))))) (swift_tb (run_all k hk)) hx

end Go.Dv.UnrollCountsWalk
