/- The law's function returns true. No condition. -/
import Derived.Test.YtpdgaigfmjfnoajPajOk
import Derived.Test.YtpdgaigfmjfnoajDeadEntryRun0
import Derived.Test.YtpdgaigfmjfnoajDeadEntryRun1
namespace Go.Dv.DeadEntryWalk
open Go Go.Df Go.Proofs Go.RowKit Go.Dv.Paj

theorem walk (a0 : Bool) (w : World) : Calls Try.prog 3 #[.bool a0] w fun e w' => e = .returned (.bool true) ∧ Grown w w' := by
  cases a0
  · exact law_true orders ok (ρ := fun _ => 0) facts_nil run0 (by simp only [List.map_cons, List.map_nil, den_d, den_bool]; exact args_bool args_nil)
  · exact law_true orders ok (ρ := fun _ => 0) facts_nil run1 (by simp only [List.map_cons, List.map_nil, den_d, den_bool]; exact args_bool args_nil)

end Go.Dv.DeadEntryWalk
