/- The compiled functions are the program's. No condition. -/
import Derived.Test.YtjnllnigogpagadProg
import Derived.Test.YtjnllnigogpagadPuc
import Derived.KernelRfl
namespace Go.Dv.Puc
open Go Go.Df Go.Proofs
set_option maxRecDepth 100000

theorem c3 : compFn Try.prog pureF 3 = some f3 := by kernel_rfl

theorem c4 : compFn Try.prog pureF 4 = some f4 := by kernel_rfl

theorem c5 : compFn Try.prog pureF 5 = some f5 := by kernel_rfl

theorem c6 : compFn Try.prog pureF 6 = some f6 := by kernel_rfl

theorem c7 : compFn Try.prog pureF 7 = some f7 := by kernel_rfl

theorem c8 : compFn Try.prog pureF 8 = some f8 := by kernel_rfl

theorem c9 : compFn Try.prog pureF 9 = some f9 := by kernel_rfl

theorem c10 : compFn Try.prog pureF 10 = some f10 := by kernel_rfl

theorem c11 : compFn Try.prog pureF 11 = some f11 := by kernel_rfl

theorem c12 : compFn Try.prog pureF 12 = some f12 := by kernel_rfl

theorem c13 : compFn Try.prog pureF 13 = some f13 := by kernel_rfl

theorem c14 : compFn Try.prog pureF 14 = some f14 := by kernel_rfl

theorem c15 : compFn Try.prog pureF 15 = some f15 := by kernel_rfl

theorem c16 : compFn Try.prog pureF 16 = some f16 := by kernel_rfl

theorem c17 : compFn Try.prog pureF 17 = some f17 := by kernel_rfl

theorem c18 : compFn Try.prog pureF 18 = some f18 := by kernel_rfl

theorem c19 : compFn Try.prog pureF 19 = some f19 := by kernel_rfl

theorem c20 : compFn Try.prog pureF 20 = some f20 := by kernel_rfl

theorem c21 : compFn Try.prog pureF 21 = some f21 := by kernel_rfl

theorem c22 : compFn Try.prog pureF 22 = some f22 := by kernel_rfl

theorem c23 : compFn Try.prog pureF 23 = some f23 := by kernel_rfl

theorem c24 : compFn Try.prog pureF 24 = some f24 := by kernel_rfl

theorem c25 : compFn Try.prog pureF 25 = some f25 := by kernel_rfl

theorem c26 : compFn Try.prog pureF 26 = some f26 := by kernel_rfl

theorem c27 : compFn Try.prog pureF 27 = some f27 := by kernel_rfl

theorem c28 : compFn Try.prog pureF 28 = some f28 := by kernel_rfl

theorem c29 : compFn Try.prog pureF 29 = some f29 := by kernel_rfl

theorem c30 : compFn Try.prog pureF 30 = some f30 := by kernel_rfl

theorem c31 : compFn Try.prog pureF 31 = some f31 := by kernel_rfl

theorem c32 : compFn Try.prog pureF 32 = some f32 := by kernel_rfl

theorem c33 : compFn Try.prog pureF 33 = some f33 := by kernel_rfl

theorem c34 : compFn Try.prog pureF 34 = some f34 := by kernel_rfl

theorem c35 : compFn Try.prog pureF 35 = some f35 := by kernel_rfl

theorem c36 : compFn Try.prog pureF 36 = some f36 := by kernel_rfl

theorem c37 : compFn Try.prog pureF 37 = some f37 := by kernel_rfl

theorem c38 : compFn Try.prog pureF 38 = some f38 := by kernel_rfl

theorem c39 : compFn Try.prog pureF 39 = some f39 := by kernel_rfl

theorem c40 : compFn Try.prog pureF 40 = some f40 := by kernel_rfl

theorem c41 : compFn Try.prog pureF 41 = some f41 := by kernel_rfl

theorem c42 : compFn Try.prog pureF 42 = some f42 := by kernel_rfl

theorem c43 : compFn Try.prog pureF 43 = some f43 := by kernel_rfl

theorem c44 : compFn Try.prog pureF 44 = some f44 := by kernel_rfl

theorem c45 : compFn Try.prog pureF 45 = some f45 := by kernel_rfl

theorem c46 : compFn Try.prog pureF 46 = some f46 := by kernel_rfl

theorem c47 : compFn Try.prog pureF 47 = some f47 := by kernel_rfl

theorem c48 : compFn Try.prog pureF 48 = some f48 := by kernel_rfl

theorem c49 : compFn Try.prog pureF 49 = some f49 := by kernel_rfl

theorem c50 : compFn Try.prog pureF 50 = some f50 := by kernel_rfl

theorem c51 : compFn Try.prog pureF 51 = some f51 := by kernel_rfl

theorem c52 : compFn Try.prog pureF 52 = some f52 := by kernel_rfl

theorem c53 : compFn Try.prog pureF 53 = some f53 := by kernel_rfl

theorem c54 : compFn Try.prog pureF 54 = some f54 := by kernel_rfl

theorem c55 : compFn Try.prog pureF 55 = some f55 := by kernel_rfl

theorem c56 : compFn Try.prog pureF 56 = some f56 := by kernel_rfl

theorem c57 : compFn Try.prog pureF 57 = some f57 := by kernel_rfl

theorem c58 : compFn Try.prog pureF 58 = some f58 := by kernel_rfl

theorem c59 : compFn Try.prog pureF 59 = some f59 := by kernel_rfl

theorem c60 : compFn Try.prog pureF 60 = some f60 := by kernel_rfl

theorem c61 : compFn Try.prog pureF 61 = some f61 := by kernel_rfl

theorem c62 : compFn Try.prog pureF 62 = some f62 := by kernel_rfl

theorem c63 : compFn Try.prog pureF 63 = some f63 := by kernel_rfl

theorem c64 : compFn Try.prog pureF 64 = some f64 := by kernel_rfl

theorem c65 : compFn Try.prog pureF 65 = some f65 := by kernel_rfl

theorem c66 : compFn Try.prog pureF 66 = some f66 := by kernel_rfl

theorem c67 : compFn Try.prog pureF 67 = some f67 := by kernel_rfl

theorem c68 : compFn Try.prog pureF 68 = some f68 := by kernel_rfl

theorem c69 : compFn Try.prog pureF 69 = some f69 := by kernel_rfl

theorem c70 : compFn Try.prog pureF 70 = some f70 := by kernel_rfl

theorem c71 : compFn Try.prog pureF 71 = some f71 := by kernel_rfl

theorem c72 : compFn Try.prog pureF 72 = some f72 := by kernel_rfl

theorem c73 : compFn Try.prog pureF 73 = some f73 := by kernel_rfl

theorem c74 : compFn Try.prog pureF 74 = some f74 := by kernel_rfl

theorem c75 : compFn Try.prog pureF 75 = some f75 := by kernel_rfl

theorem c76 : compFn Try.prog pureF 76 = some f76 := by kernel_rfl

theorem c77 : compFn Try.prog pureF 77 = some f77 := by kernel_rfl

theorem ok : tree.Ok Try.prog := ⟨⟨⟨⟨⟨⟨⟨pureF, c3⟩, ⟨pureF, c4⟩⟩, ⟨⟨pureF, c5⟩, ⟨pureF, c6⟩⟩⟩, ⟨⟨⟨pureF, c7⟩, ⟨pureF, c8⟩⟩, ⟨⟨pureF, c9⟩, ⟨⟨pureF, c10⟩, ⟨pureF, c11⟩⟩⟩⟩⟩, ⟨⟨⟨⟨pureF, c12⟩, ⟨pureF, c13⟩⟩, ⟨⟨pureF, c14⟩, ⟨pureF, c15⟩⟩⟩, ⟨⟨⟨pureF, c16⟩, ⟨pureF, c17⟩⟩, ⟨⟨pureF, c18⟩, ⟨⟨pureF, c19⟩, ⟨pureF, c20⟩⟩⟩⟩⟩⟩, ⟨⟨⟨⟨⟨pureF, c21⟩, ⟨pureF, c22⟩⟩, ⟨⟨pureF, c23⟩, ⟨pureF, c24⟩⟩⟩, ⟨⟨⟨pureF, c25⟩, ⟨pureF, c26⟩⟩, ⟨⟨pureF, c27⟩, ⟨⟨pureF, c28⟩, ⟨pureF, c29⟩⟩⟩⟩⟩, ⟨⟨⟨⟨pureF, c30⟩, ⟨pureF, c31⟩⟩, ⟨⟨pureF, c32⟩, ⟨⟨pureF, c33⟩, ⟨pureF, c34⟩⟩⟩⟩, ⟨⟨⟨pureF, c35⟩, ⟨pureF, c36⟩⟩, ⟨⟨pureF, c37⟩, ⟨⟨pureF, c38⟩, ⟨pureF, c39⟩⟩⟩⟩⟩⟩⟩, ⟨⟨⟨⟨⟨⟨pureF, c40⟩, ⟨pureF, c41⟩⟩, ⟨⟨pureF, c42⟩, ⟨pureF, c43⟩⟩⟩, ⟨⟨⟨pureF, c44⟩, ⟨pureF, c45⟩⟩, ⟨⟨pureF, c46⟩, ⟨⟨pureF, c47⟩, ⟨pureF, c48⟩⟩⟩⟩⟩, ⟨⟨⟨⟨pureF, c49⟩, ⟨pureF, c50⟩⟩, ⟨⟨pureF, c51⟩, ⟨⟨pureF, c52⟩, ⟨pureF, c53⟩⟩⟩⟩, ⟨⟨⟨pureF, c54⟩, ⟨pureF, c55⟩⟩, ⟨⟨pureF, c56⟩, ⟨⟨pureF, c57⟩, ⟨pureF, c58⟩⟩⟩⟩⟩⟩, ⟨⟨⟨⟨⟨pureF, c59⟩, ⟨pureF, c60⟩⟩, ⟨⟨pureF, c61⟩, ⟨pureF, c62⟩⟩⟩, ⟨⟨⟨pureF, c63⟩, ⟨pureF, c64⟩⟩, ⟨⟨pureF, c65⟩, ⟨⟨pureF, c66⟩, ⟨pureF, c67⟩⟩⟩⟩⟩, ⟨⟨⟨⟨pureF, c68⟩, ⟨pureF, c69⟩⟩, ⟨⟨pureF, c70⟩, ⟨⟨pureF, c71⟩, ⟨pureF, c72⟩⟩⟩⟩, ⟨⟨⟨pureF, c73⟩, ⟨pureF, c74⟩⟩, ⟨⟨pureF, c75⟩, ⟨⟨pureF, c76⟩, ⟨pureF, c77⟩⟩⟩⟩⟩⟩⟩⟩

theorem orders : Try.prog.follows .mixedOrders = true := by kernel_rfl

end Go.Dv.Puc
