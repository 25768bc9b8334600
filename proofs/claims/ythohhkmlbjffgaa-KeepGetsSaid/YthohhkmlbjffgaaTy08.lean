/- Facts of the types of this seat, for the small machine (written by a program of this session; no condition). -/
import Derived.Test.YthohhkmlbjffgaaProg
import Derived.Test.YthohhkmlbjffgaaMir20
import Derived.KernelRfl
namespace Go.Proofs.Ythohhkmlbjffgaa.M
open Go Go.Mir Go.Proofs
theorem sz0 : sz Try.prog 0 = some 1 := by kernel_rfl
theorem ag0 : isAggT Try.prog 0 = some false := by kernel_rfl
theorem by0 : byt Try.prog 0 = some 0 := by kernel_rfl
theorem sz2 : sz Try.prog 2 = some 1 := by kernel_rfl
theorem ag2 : isAggT Try.prog 2 = some false := by kernel_rfl
theorem by2 : byt Try.prog 2 = some 8 := by kernel_rfl
theorem zr2 : zr Try.prog 2 = some (.lit (.int .i64 0)) := by kernel_rfl
theorem sz3 : sz Try.prog 3 = some 1 := by kernel_rfl
theorem ag3 : isAggT Try.prog 3 = some false := by kernel_rfl
theorem by3 : byt Try.prog 3 = some 8 := by kernel_rfl
theorem zr3 : zr Try.prog 3 = some (.lit (.int .i64 0)) := by kernel_rfl
theorem sz4 : sz Try.prog 4 = some 1 := by kernel_rfl
theorem ag4 : isAggT Try.prog 4 = some false := by kernel_rfl
theorem by4 : byt Try.prog 4 = some 1 := by kernel_rfl
theorem zr4 : zr Try.prog 4 = some (.lit (.bool false)) := by kernel_rfl
theorem sz5 : sz Try.prog 5 = some 1 := by kernel_rfl
theorem ag5 : isAggT Try.prog 5 = some false := by kernel_rfl
theorem by5 : byt Try.prog 5 = some 1 := by kernel_rfl
theorem zr5 : zr Try.prog 5 = some (.lit (.int .u8 0)) := by kernel_rfl
theorem sz8 : sz Try.prog 8 = some 4 := by kernel_rfl
theorem ag8 : isAggT Try.prog 8 = some true := by kernel_rfl
theorem by8 : byt Try.prog 8 = some 24 := by kernel_rfl
theorem zr8 : zr Try.prog 8 = some (.agg [.lit (.int .i64 0), .lit (.int .i64 0), .lit (.bool false), .lit (.int .u8 0)]) := by kernel_rfl
theorem sz9 : sz Try.prog 9 = some 1 := by kernel_rfl
theorem ag9 : isAggT Try.prog 9 = some false := by kernel_rfl
theorem by9 : byt Try.prog 9 = some 16 := by kernel_rfl
theorem zr9 : zr Try.prog 9 = some (.lit (.string ⟨#[]⟩)) := by kernel_rfl
theorem sz10 : sz Try.prog 10 = some 1 := by kernel_rfl
theorem ag10 : isAggT Try.prog 10 = some false := by kernel_rfl
theorem by10 : byt Try.prog 10 = some 16 := by kernel_rfl
theorem zr10 : zr Try.prog 10 = some (.lit (.string ⟨#[]⟩)) := by kernel_rfl
theorem sz11 : sz Try.prog 11 = some 1 := by kernel_rfl
theorem ag11 : isAggT Try.prog 11 = some false := by kernel_rfl
theorem by11 : byt Try.prog 11 = some 16 := by kernel_rfl
theorem zr11 : zr Try.prog 11 = some (.lit (.string ⟨#[]⟩)) := by kernel_rfl
theorem sz12 : sz Try.prog 12 = some 1 := by kernel_rfl
theorem ag12 : isAggT Try.prog 12 = some false := by kernel_rfl
theorem by12 : byt Try.prog 12 = some 8 := by kernel_rfl
theorem zr12 : zr Try.prog 12 = some (.lit (.int .u64 0)) := by kernel_rfl
theorem sz14 : sz Try.prog 14 = some 2 := by kernel_rfl
theorem ag14 : isAggT Try.prog 14 = some true := by kernel_rfl
theorem by14 : byt Try.prog 14 = some 24 := by kernel_rfl
theorem zr14 : zr Try.prog 14 = some (.agg [.lit (.string ⟨#[]⟩), .lit (.int .u64 0)]) := by kernel_rfl
theorem sz15 : sz Try.prog 15 = some 1 := by kernel_rfl
theorem ag15 : isAggT Try.prog 15 = some false := by kernel_rfl
theorem by15 : byt Try.prog 15 = some 8 := by kernel_rfl
theorem zr15 : zr Try.prog 15 = some (.lit (.pointer none)) := by kernel_rfl
theorem sz16 : sz Try.prog 16 = some 1 := by kernel_rfl
theorem ag16 : isAggT Try.prog 16 = some false := by kernel_rfl
theorem by16 : byt Try.prog 16 = some 8 := by kernel_rfl
theorem zr16 : zr Try.prog 16 = some (.lit (.pointer none)) := by kernel_rfl
theorem sz17 : sz Try.prog 17 = some 1 := by kernel_rfl
theorem ag17 : isAggT Try.prog 17 = some false := by kernel_rfl
theorem by17 : byt Try.prog 17 = some 8 := by kernel_rfl
theorem zr17 : zr Try.prog 17 = some (.lit (.pointer none)) := by kernel_rfl
theorem sz19 : sz Try.prog 19 = some 1 := by kernel_rfl
theorem ag19 : isAggT Try.prog 19 = some true := by kernel_rfl
theorem by19 : byt Try.prog 19 = some 8 := by kernel_rfl
theorem zr19 : zr Try.prog 19 = some (.agg [.lit (.pointer none)]) := by kernel_rfl
theorem sz22 : sz Try.prog 22 = some 1 := by kernel_rfl
theorem ag22 : isAggT Try.prog 22 = some false := by kernel_rfl
theorem by22 : byt Try.prog 22 = some 24 := by kernel_rfl
theorem zr22 : zr Try.prog 22 = some (.sl true []) := by kernel_rfl
theorem sz24 : sz Try.prog 24 = some 2 := by kernel_rfl
theorem ag24 : isAggT Try.prog 24 = some true := by kernel_rfl
theorem by24 : byt Try.prog 24 = some 32 := by kernel_rfl
theorem zr24 : zr Try.prog 24 = some (.agg [.lit (.int .i64 0), .sl true []]) := by kernel_rfl
theorem sz25 : sz Try.prog 25 = some 1 := by kernel_rfl
theorem ag25 : isAggT Try.prog 25 = some false := by kernel_rfl
theorem by25 : byt Try.prog 25 = some 24 := by kernel_rfl
theorem zr25 : zr Try.prog 25 = some (.sl true []) := by kernel_rfl
theorem sz26 : sz Try.prog 26 = some 1 := by kernel_rfl
theorem ag26 : isAggT Try.prog 26 = some false := by kernel_rfl
theorem by26 : byt Try.prog 26 = some 24 := by kernel_rfl
theorem zr26 : zr Try.prog 26 = some (.sl true []) := by kernel_rfl
theorem sz28 : sz Try.prog 28 = some 8 := by kernel_rfl
theorem ag28 : isAggT Try.prog 28 = some true := by kernel_rfl
theorem by28 : byt Try.prog 28 = some 96 := by kernel_rfl
theorem zr28 : zr Try.prog 28 = some (.agg [.lit (.int .i64 0), .lit (.int .i64 0), .lit (.int .i64 0), .lit (.int .i64 0), .lit (.int .i64 0), .lit (.int .i64 0), .sl true [], .sl true []]) := by kernel_rfl
theorem sz30 : sz Try.prog 30 = some 14 := by kernel_rfl
theorem ag30 : isAggT Try.prog 30 = some true := by kernel_rfl
theorem by30 : byt Try.prog 30 = some 176 := by kernel_rfl
theorem zr30 : zr Try.prog 30 = some (.agg [.lit (.int .i64 0), .sl true [], .lit (.int .i64 0), .sl true [], .lit (.int .i64 0), .lit (.int .i64 0), .lit (.int .i64 0), .lit (.int .i64 0), .lit (.int .i64 0), .lit (.int .i64 0), .sl true [], .sl true [], .lit (.int .i64 0), .lit (.int .i64 0)]) := by kernel_rfl
theorem sz31 : sz Try.prog 31 = some 1 := by kernel_rfl
theorem ag31 : isAggT Try.prog 31 = some false := by kernel_rfl
theorem by31 : byt Try.prog 31 = some 8 := by kernel_rfl
theorem zr31 : zr Try.prog 31 = some (.lit .nilFunc) := by kernel_rfl
theorem sz33 : sz Try.prog 33 = some 1 := by kernel_rfl
theorem ag33 : isAggT Try.prog 33 = some false := by kernel_rfl
theorem by33 : byt Try.prog 33 = some 8 := by kernel_rfl
theorem zr33 : zr Try.prog 33 = some (.lit .nilFunc) := by kernel_rfl
theorem sz37 : sz Try.prog 37 = some 1 := by kernel_rfl
theorem ag37 : isAggT Try.prog 37 = some false := by kernel_rfl
theorem by37 : byt Try.prog 37 = some 8 := by kernel_rfl
theorem zr37 : zr Try.prog 37 = some (.lit (.int .i64 0)) := by kernel_rfl
theorem sz38 : sz Try.prog 38 = some 1 := by kernel_rfl
theorem ag38 : isAggT Try.prog 38 = some false := by kernel_rfl
theorem by38 : byt Try.prog 38 = some 0 := by kernel_rfl
theorem sz40 : sz Try.prog 40 = some 1 := by kernel_rfl
theorem ag40 : isAggT Try.prog 40 = some false := by kernel_rfl
theorem by40 : byt Try.prog 40 = some 0 := by kernel_rfl
theorem sz42 : sz Try.prog 42 = some 1 := by kernel_rfl
theorem ag42 : isAggT Try.prog 42 = some false := by kernel_rfl
theorem by42 : byt Try.prog 42 = some 0 := by kernel_rfl
theorem sz45 : sz Try.prog 45 = some 1 := by kernel_rfl
theorem ag45 : isAggT Try.prog 45 = some false := by kernel_rfl
theorem by45 : byt Try.prog 45 = some 8 := by kernel_rfl
theorem zr45 : zr Try.prog 45 = some (.lit .nilFunc) := by kernel_rfl
theorem sz49 : sz Try.prog 49 = some 13 := by kernel_rfl
theorem ag49 : isAggT Try.prog 49 = some true := by kernel_rfl
theorem by49 : byt Try.prog 49 = some 152 := by kernel_rfl
theorem zr49 : zr Try.prog 49 = some (.agg [.lit (.int .i64 0), .sl true [], .lit (.int .i64 0), .lit (.int .i64 0), .lit (.int .i64 0), .lit (.int .i64 0), .lit (.int .i64 0), .lit (.int .i64 0), .sl true [], .sl true [], .lit (.int .i64 0), .lit (.int .i64 0), .lit (.int .i64 0)]) := by kernel_rfl
theorem sz55 : sz Try.prog 55 = some 5 := by kernel_rfl
theorem ag55 : isAggT Try.prog 55 = some true := by kernel_rfl
theorem by55 : byt Try.prog 55 = some 40 := by kernel_rfl
theorem zr55 : zr Try.prog 55 = some (.agg [.lit (.int .i64 0), .sl true [], .lit (.int .u8 0), .lit (.int .u8 0), .lit (.int .u8 0)]) := by kernel_rfl
theorem sz60 : sz Try.prog 60 = some 1 := by kernel_rfl
theorem ag60 : isAggT Try.prog 60 = some false := by kernel_rfl
theorem by60 : byt Try.prog 60 = some 8 := by kernel_rfl
theorem zr60 : zr Try.prog 60 = some (.lit .nilFunc) := by kernel_rfl
theorem sz63 : sz Try.prog 63 = some 1 := by kernel_rfl
theorem ag63 : isAggT Try.prog 63 = some false := by kernel_rfl
theorem by63 : byt Try.prog 63 = some 0 := by kernel_rfl
theorem sz64 : sz Try.prog 64 = some 1 := by kernel_rfl
theorem ag64 : isAggT Try.prog 64 = some false := by kernel_rfl
theorem by64 : byt Try.prog 64 = some 8 := by kernel_rfl
theorem zr64 : zr Try.prog 64 = some (.lit (.map none)) := by kernel_rfl
theorem sz66 : sz Try.prog 66 = some 1 := by kernel_rfl
theorem ag66 : isAggT Try.prog 66 = some false := by kernel_rfl
theorem by66 : byt Try.prog 66 = some 8 := by kernel_rfl
theorem zr66 : zr Try.prog 66 = some (.lit .nilFunc) := by kernel_rfl
theorem sz69 : sz Try.prog 69 = some 1 := by kernel_rfl
theorem ag69 : isAggT Try.prog 69 = some false := by kernel_rfl
theorem by69 : byt Try.prog 69 = some 8 := by kernel_rfl
theorem zr69 : zr Try.prog 69 = some (.lit .nilFunc) := by kernel_rfl
theorem sz72 : sz Try.prog 72 = some 4 := by kernel_rfl
theorem ag72 : isAggT Try.prog 72 = some true := by kernel_rfl
theorem by72 : byt Try.prog 72 = some 40 := by kernel_rfl
theorem zr72 : zr Try.prog 72 = some (.agg [.lit (.pointer none), .lit (.pointer none), .lit (.pointer none), .lit (.string ⟨#[]⟩)]) := by kernel_rfl
theorem sz73 : sz Try.prog 73 = some 0 := by kernel_rfl
theorem ag73 : isAggT Try.prog 73 = some true := by kernel_rfl
theorem by73 : byt Try.prog 73 = some 0 := by kernel_rfl
theorem zr73 : zr Try.prog 73 = some (.agg []) := by kernel_rfl
theorem sz75 : sz Try.prog 75 = some 0 := by kernel_rfl
theorem ag75 : isAggT Try.prog 75 = some true := by kernel_rfl
theorem by75 : byt Try.prog 75 = some 0 := by kernel_rfl
theorem zr75 : zr Try.prog 75 = some (.agg []) := by kernel_rfl
theorem sz79 : sz Try.prog 79 = some 1 := by kernel_rfl
theorem ag79 : isAggT Try.prog 79 = some false := by kernel_rfl
theorem by79 : byt Try.prog 79 = some 1 := by kernel_rfl
theorem zr79 : zr Try.prog 79 = some (.lit (.int .u8 0)) := by kernel_rfl
theorem sz85 : sz Try.prog 85 = some 11 := by kernel_rfl
theorem ag85 : isAggT Try.prog 85 = some true := by kernel_rfl
theorem by85 : byt Try.prog 85 = some 48 := by kernel_rfl
theorem zr85 : zr Try.prog 85 = some (.agg [.lit (.int .u64 0), .lit (.int .u64 0), .lit (.int .u32 0), .lit (.int .u8 0), .lit (.int .u8 0), .lit (.int .u8 0), .lit (.int .u8 0), .lit .nilFunc, .lit (.pointer none), .lit (.int .i32 0), .lit (.int .i32 0)]) := by kernel_rfl
end Go.Proofs.Ythohhkmlbjffgaa.M
