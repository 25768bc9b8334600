/- The table of loops, row by row (written by a program of this session; no condition). -/
import Derived.Test.YthohhkmlbjffgaaEnv08
import Derived.IntWalk
import Derived.Test.YthohhkmlbjffgaaMir21
namespace Go.Proofs.Ythohhkmlbjffgaa.M
open Go Go.Mir Go.Proofs
theorem lv4_15 : E.live 4 15 = ([2, 3, 7, 8, 9, 10, 11, 12, 13, 14], []) := rfl
theorem lv5_10 : E.live 5 10 = ([2, 6, 7, 8, 9, 10, 11, 12, 13], []) := rfl
theorem lv5_18 : E.live 5 18 = ([2, 6, 7, 8, 9, 10, 11, 12, 13, 14, 15, 32, 33, 34, 35, 38, 39, 40, 41, 42, 43, 44, 45, 46, 47, 48, 49, 50, 51, 52], []) := rfl
theorem lv10_4 : E.live 10 4 = ([0, 2, 3], []) := rfl
theorem lv12_4 : E.live 12 4 = ([1, 2, 3], []) := rfl
theorem lv13_2 : E.live 13 2 = ([1, 2, 6, 7, 8], []) := rfl
theorem lv21_2 : E.live 21 2 = ([1, 2, 4, 5, 6], []) := rfl
theorem lv26_3 : E.live 26 3 = ([1, 2, 4, 5, 6], [(5, 28, 8)]) := rfl
theorem lv29_4 : E.live 29 4 = ([1, 2, 6, 15, 16, 17], []) := rfl
theorem lv31_4 : E.live 31 4 = ([0, 1, 4, 5], []) := rfl
theorem lv34_4 : E.live 34 4 = ([0, 1, 4, 5], []) := rfl
theorem lv36_2 : E.live 36 2 = ([0, 1, 4, 5], []) := rfl
theorem lv39_4 : E.live 39 4 = ([0, 1, 4, 12, 13], []) := rfl
theorem lv41_2 : E.live 41 2 = ([0, 1, 4, 7, 8], []) := rfl
theorem lv46_2 : E.live 46 2 = ([1, 4, 7, 8, 9], []) := rfl
theorem EP : E.P = Try.prog := rfl
theorem wrapI {n : Int} (h1 : -9223372036854775808 ≤ n) (h2 : n ≤ 9223372036854775807) : IntKind.i64.wrap n = n := Go.IntWalk.i64_in n ⟨h1, h2⟩
abbrev I (n : Int) : PV := .lit (.int .i64 n)
abbrev B (b : Bool) : PV := .lit (.bool b)
abbrev U (n : Int) : PV := .lit (.int .u8 n)
end Go.Proofs.Ythohhkmlbjffgaa.M
