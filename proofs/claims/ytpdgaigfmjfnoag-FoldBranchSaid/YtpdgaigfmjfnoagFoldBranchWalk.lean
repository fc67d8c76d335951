/- The law's function returns true. No condition. -/
import Derived.Test.YtpdgaigfmjfnoagPagOk
import Derived.Test.YtpdgaigfmjfnoagFoldBranchRun0
import Derived.Test.YtpdgaigfmjfnoagFoldBranchRun1
namespace Go.Dv.FoldBranchWalk
open Go Go.Df Go.Proofs Go.RowKit Go.Dv.Pag

theorem walk (a0 a1 : Int) (w : World) : Calls Try.prog 3 #[.int .i64 a0, .int .i64 a1] w fun e w' => e = .returned (.bool true) ∧ Grown w w' := by
  have hx : CRel (fun _ => none) (fun _ => False) w (([.d (.int .i64 (.var 0)), .d (.int .i64 (.var 1))] : List FV).map (FV.den fun i => if i = 0 then a0 else a1)) (#[.int .i64 a0, .int .i64 a1] : Array Value).toList := by
    simp only [List.map_cons, List.map_nil, den_d, den_int, E.den]
    exact args_int (args_int args_nil)
  by_cases h : a0 = 0
  · exact law_true orders ok (ρ := fun i => if i = 0 then a0 else a1) (facts_cons (by simp [intOp, E.den, V.bool, h]) facts_nil) (fast run0) hx
  · exact law_true orders ok (ρ := fun i => if i = 0 then a0 else a1) (facts_cons (by simp [intOp, E.den, V.bool, h]) facts_nil) (fast run1) hx

end Go.Dv.FoldBranchWalk
