import Derived.Test.YthohhkmlbjffgaaC08a
import Derived.KernelRfl
namespace Go.Proofs.Ythohhkmlbjffgaa.M
open Go Go.Mir Go.Proofs Go.RowKit
theorem shown_run : (callR E (Mir.runN E 2000) 9 [] [] 0).map (·.1) = some [RV.pv (.lit (.bool true))] := by kernel_rfl
theorem shown9 : call E 9 [] = some [.pv (B true)] := call_runN (n := 2000) (ps := []) shown_run
end Go.Proofs.Ythohhkmlbjffgaa.M
