/- The law's function returns true. No condition. -/
import Derived.Test.YtpdgaigfmjfnoakPakOk
import Derived.Test.YtpdgaigfmjfnoakInlineExamplesRun
namespace Go.Dv.InlineExamplesWalk
open Go Go.Df Go.Proofs Go.RowKit Go.Dv.Pak

theorem wrap_in {a : Int} (h : (Lit.int .i64 a).wf = true) : IntKind.i64.wrap a = a := by
  simp only [Lit.wf, Bool.and_eq_true, decide_eq_true_eq] at h
  have h1 : -9223372036854775808 ≤ a := h.1
  have h2 : a ≤ 9223372036854775807 := h.2
  show (if (true && decide (a % (2 ^ 64 : Int) ≥ (2 ^ 63 : Int))) = true then a % (2 ^ 64 : Int) - (2 ^ 64 : Int) else a % (2 ^ 64 : Int)) = a
  have e64 : (2 ^ 64 : Int) = 18446744073709551616 := by decide
  have e63 : (2 ^ 63 : Int) = 9223372036854775808 := by decide
  rw [e64, e63]
  by_cases hd : a % 18446744073709551616 ≥ 9223372036854775808
  · rw [decide_eq_true hd]
    simp only [Bool.and_self, if_true]
    omega
  · rw [decide_eq_false hd]
    simp only [Bool.and_false, Bool.false_eq_true, if_false]
    omega

theorem walk (a0 : Int) (w0 : (Lit.int .i64 a0).wf = true) (w : World) : Calls Try.prog 3 #[.int .i64 a0] w fun e w' => e = .returned (.bool true) ∧ Grown w w' := by
  have hx : CRel (fun _ => none) (fun _ => False) w (([.d (.int .i64 (.var 0))] : List FV).map (FV.den fun _ => a0)) (#[.int .i64 a0] : Array Value).toList := by
    simp only [List.map_cons, List.map_nil, den_d, den_int, E.den]
    exact args_int args_nil
  refine law_true orders ok (ρ := fun _ => a0) (facts_cons ?_ facts_nil) (fast run0) hx
  have e : opVal .add .i64 a0 0 = a0 := by
    show IntKind.i64.wrap (a0 + 0) = a0
    rw [Int.add_zero]
    exact wrap_in w0
  simp only [E.den, e, intOp, V.bool, beq_self_eq_true]

end Go.Dv.InlineExamplesWalk
