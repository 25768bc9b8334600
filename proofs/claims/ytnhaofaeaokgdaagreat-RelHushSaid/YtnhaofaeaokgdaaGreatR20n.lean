import Derived.Test.YtnhaofaeaokgdaaGreatS20
import Derived.Test.YtnhaofaeaokgdaaGreatR20m
set_option linter.all false
set_option linter.unusedVariables false
set_option linter.unusedSimpArgs false
set_option linter.unnecessarySimpa false
namespace Go.Proofs.YtnhaofaeaokgdaaGreat.M
open Go Go.Mir Go.Proofs

theorem relHears (x : RelHearsIn) : Cl 3 [eRelHearsIn x] [.pv (B true)] := relHears_of sorts x
theorem relHush (a : UInt8) (same : Bool) : Cl 4 [U8 a, B same] [.pv (B true)] := relHush_of sorts a same
end Go.Proofs.YtnhaofaeaokgdaaGreat.M
