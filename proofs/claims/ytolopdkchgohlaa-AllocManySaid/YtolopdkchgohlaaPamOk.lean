/- The compiled functions are the program's. No condition. -/
import Derived.Test.YtolopdkchgohlaaProg
import Derived.Test.YtolopdkchgohlaaPam
import Derived.KernelRfl
namespace Go.Dv.Pam
open Go Go.Df Go.Proofs
set_option maxRecDepth 100000

theorem c3 : compFn Try.prog pureF 3 = some f3 := by kernel_rfl

theorem c4 : compFn Try.prog pureF 4 = some f4 := by kernel_rfl

theorem c5 : compFn Try.prog pureF 5 = some f5 := by kernel_rfl

theorem c6 : compFn Try.prog pureF 6 = some f6 := by kernel_rfl

theorem c7 : compFn Try.prog pureF 7 = some f7 := by kernel_rfl

theorem c8 : compFn Try.prog pureF 8 = some f8 := by kernel_rfl

theorem c9 : compFn Try.prog pureF 9 = some f9 := by kernel_rfl

theorem c10 : compFn Try.prog pureF 10 = some f10 := by kernel_rfl

theorem c11 : compFn Try.prog pureF 11 = some f11 := by kernel_rfl

theorem c12 : compFn Try.prog pureF 12 = some f12 := by kernel_rfl

theorem c13 : compFn Try.prog pureF 13 = some f13 := by kernel_rfl

theorem c14 : compFn Try.prog pureF 14 = some f14 := by kernel_rfl

theorem c15 : compFn Try.prog pureF 15 = some f15 := by kernel_rfl

theorem c16 : compFn Try.prog pureF 16 = some f16 := by kernel_rfl

theorem c17 : compFn Try.prog pureF 17 = some f17 := by kernel_rfl

theorem c18 : compFn Try.prog pureF 18 = some f18 := by kernel_rfl

theorem c19 : compFn Try.prog pureF 19 = some f19 := by kernel_rfl

theorem c20 : compFn Try.prog pureF 20 = some f20 := by kernel_rfl

theorem c21 : compFn Try.prog pureF 21 = some f21 := by kernel_rfl

theorem c22 : compFn Try.prog pureF 22 = some f22 := by kernel_rfl

theorem c23 : compFn Try.prog pureF 23 = some f23 := by kernel_rfl

theorem c24 : compFn Try.prog pureF 24 = some f24 := by kernel_rfl

theorem c25 : compFn Try.prog pureF 25 = some f25 := by kernel_rfl

theorem c26 : compFn Try.prog pureF 26 = some f26 := by kernel_rfl

theorem c27 : compFn Try.prog pureF 27 = some f27 := by kernel_rfl

theorem c28 : compFn Try.prog pureF 28 = some f28 := by kernel_rfl

theorem c29 : compFn Try.prog pureF 29 = some f29 := by kernel_rfl

theorem c30 : compFn Try.prog pureF 30 = some f30 := by kernel_rfl

theorem c31 : compFn Try.prog pureF 31 = some f31 := by kernel_rfl

theorem c32 : compFn Try.prog pureF 32 = some f32 := by kernel_rfl

theorem c33 : compFn Try.prog pureF 33 = some f33 := by kernel_rfl

theorem c34 : compFn Try.prog pureF 34 = some f34 := by kernel_rfl

theorem c35 : compFn Try.prog pureF 35 = some f35 := by kernel_rfl

theorem ok : tree.Ok Try.prog := ⟨⟨⟨⟨⟨⟨pureF, c3⟩, ⟨pureF, c4⟩⟩, ⟨⟨pureF, c5⟩, ⟨pureF, c6⟩⟩⟩, ⟨⟨⟨pureF, c7⟩, ⟨pureF, c8⟩⟩, ⟨⟨pureF, c9⟩, ⟨pureF, c10⟩⟩⟩⟩, ⟨⟨⟨⟨pureF, c11⟩, ⟨pureF, c12⟩⟩, ⟨⟨pureF, c13⟩, ⟨pureF, c14⟩⟩⟩, ⟨⟨⟨pureF, c15⟩, ⟨pureF, c16⟩⟩, ⟨⟨pureF, c17⟩, ⟨pureF, c18⟩⟩⟩⟩⟩, ⟨⟨⟨⟨⟨pureF, c19⟩, ⟨pureF, c20⟩⟩, ⟨⟨pureF, c21⟩, ⟨pureF, c22⟩⟩⟩, ⟨⟨⟨pureF, c23⟩, ⟨pureF, c24⟩⟩, ⟨⟨pureF, c25⟩, ⟨pureF, c26⟩⟩⟩⟩, ⟨⟨⟨⟨pureF, c27⟩, ⟨pureF, c28⟩⟩, ⟨⟨pureF, c29⟩, ⟨pureF, c30⟩⟩⟩, ⟨⟨⟨pureF, c31⟩, ⟨pureF, c32⟩⟩, ⟨⟨pureF, c33⟩, ⟨⟨pureF, c34⟩, ⟨pureF, c35⟩⟩⟩⟩⟩⟩⟩

theorem orders : Try.prog.follows .mixedOrders = true := by kernel_rfl

end Go.Dv.Pam
