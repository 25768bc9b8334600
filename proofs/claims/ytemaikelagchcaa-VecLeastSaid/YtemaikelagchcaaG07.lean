/- The functions of this seat: what must be shown of each (P..), and that it is enough (t..) (written by a program of this session; no condition). -/
import Derived.Test.YtemaikelagchcaaProg
import Derived.KernelRfl
import Derived.Test.YtemaikelagchcaaMx24
set_option linter.all false
set_option linter.unusedVariables false
set_option linter.unusedSimpArgs false
set_option linter.unnecessarySimpa false
namespace Go.Proofs.Ytemaikelagchcaa.M
open Go Go.Mir Go.Proofs
set_option maxRecDepth 100000
set_option linter.unusedVariables false
abbrev Clb (g : Nat) (xs : List BA) (bs : List (List PV)) (rs : List RV) (cs : List (List PV)) : Prop := Cb Try.prog g xs bs rs cs
abbrev Cl (g : Nat) (ps : List PV) (rs : List RV) : Prop := Ct Try.prog g ps rs
theorem mixed : Try.prog.follows .mixedOrders = true := by kernel_rfl
structure VecLeastIn where
  mk ::
  l : List (List Int)
  more : List Int
  i : UInt8
  k : UInt8
abbrev eVecLeastIn (x : VecLeastIn) : PV := .agg [.sl false (List.map lI x.l), .sl false (List.map I x.more), U8 x.i, U8 x.k]
abbrev lVecLeastIn (l : List VecLeastIn) : PV := .sl false (l.map eVecLeastIn)
abbrev llI (l : List (List Int)) : PV := .sl false (l.map lI)
/-- vec.at -/
def P29 (a0 : List PV) (a1 : Int) (Φ : List RV → Prop) : Prop :=
 Ln a0 (Fk (decide (a1 < 0))
 (Φ [.pv (I 0)])
 (Fk (decide ((a0.length : Int) ≤ a1))
 (Φ [.pv (I 0)])
 (Ix I a0 a1 fun x1 =>
 Φ [.pv (I x1)])))
theorem t29 (a0 : List PV) (a1 : Int) {Φ : List RV → Prop} (h : P29 a0 a1 Φ) : CtP Try.prog 29 [.sl false a0, I a1] Φ :=
  ctP_by h 1000 [(1002, .fork [(1007, .off)] []), (1007, .fork [] []), (1997, .lens [0]), (3002, .ix Int I)] mixed Try.func29 rfl (by kernel_rfl) (by kernel_rfl)

/-- vec.Max$1 -/
def P22 (a0 : Int) (a1 : Int) (Φ : List RV → Prop) : Prop :=
 Φ [.pv (I (imax a0 a1))]
theorem t22 (a0 : Int) (a1 : Int) {Φ : List RV → Prop} (h : P22 a0 a1 Φ) : CtP Try.prog 22 [I a0, I a1] Φ :=
  ctP_by h 1000 [] mixed Try.func22 rfl (by kernel_rfl) (by kernel_rfl)

/-- vec.join[int] -/
def P21a (b0 : List PV) (b1 : List PV) (Φ : List RV → Prop) : Prop :=
 Ln b0 (Ln b1 (Mk 8 (imax (b0.length : Int) (b1.length : Int)) (imax (b0.length : Int) (b1.length : Int)) (
 Ln (List.replicate ((imax (b0.length : Int) (b1.length : Int)).toNat) (I 0)) (SmA (.pv (.sl false b0)) ∧ SmA (.pv (.sl false b1)) ∧ SmA (.pv (.fn (.func 22) [] [])) ∧ SmA (.pv (I ((imax (b0.length : Int) (b1.length : Int)).toNat : Int))) ∧ Lo (fun (L2 : List PV × Int × Unit → Prop) (v1 : List PV × Int × Unit) =>
 Fk (decide (v1.2.1 < ((imax (b0.length : Int) (b1.length : Int)).toNat : Int)))
 (∃ x3, Cl 29 [.sl false b0, I v1.2.1] [.pv (I x3)] ∧
 ∃ x4, Cl 29 [.sl false b1, I v1.2.1] [.pv (I x4)] ∧
 ∃ x5, Cl 22 [I x3, I x4] [.pv (I x5)] ∧
 Rx v1.2.1 v1.1.length (
 Ld I v1.1 (0 + v1.2.1.toNat) fun x6 =>
 SmA (.pv (.sl false b0)) ∧ SmA (.pv (.sl false b1)) ∧ SmA (.pv (.fn (.func 22) [] [])) ∧ SmA (.pv (I ((imax (b0.length : Int) (b1.length : Int)).toNat : Int))) ∧ L2 (v1.1.set (0 + v1.2.1.toNat) (I x5), w64 (v1.2.1 + 1), ())))
 (Φ [.fresh 3 1 v1.1])) (List.replicate ((imax (b0.length : Int) (b1.length : Int)).toNat) (I 0), 0, ())))))
theorem t21a (b0 : List PV) (b1 : List PV) {Φ : List RV → Prop} (h : P21a b0 b1 Φ) : CtP Try.prog 21 [.sl false b0, .sl false b1, .fn (.func 22) [] []] Φ :=
  ctP_by h 1000 [(1005, .mk), (1997, .lens [0, 1]), (2997, .lens [7]), (3000, .fork [] []), (3999, .loop [.k 0 (.pv (.sl false b0)), .k 1 (.pv (.sl false b1)), .k 2 (.pv (.fn (.func 22) [] [])), .r 7 3 1, .k 16 (.pv (I ((imax (b0.length : Int) (b1.length : Int)).toNat : Int))), .c 17 (.int .i64)]), (5005, .call [.pv (.int .i64)]), (5008, .call [.pv (.int .i64)]), (5009, .call [.pv (.int .i64)]), (5010, .ixr), (5011, .st Int I)] mixed Try.func21 rfl (by kernel_rfl) (by kernel_rfl)

/-- vec.Max -/
def P11 (a0 : List PV) (a1 : List PV) (Φ : List RV → Prop) : Prop :=
 ∃ x1, Cl 21 [.sl false a0, .sl false a1, .fn (.func 22) [] []] [.pv (.sl false (List.map I x1))] ∧
 Φ [.pv (.sl false (List.map I x1))]
theorem t11 (a0 : List PV) (a1 : List PV) {Φ : List RV → Prop} (h : P11 a0 a1 Φ) : CtP Try.prog 11 [.sl false a0, .sl false a1] Φ :=
  ctP_by h 1000 [(1002, .call [.pv (.ty (List Int) lI)])] mixed Try.func11 rfl (by kernel_rfl) (by kernel_rfl)

/-- precentorref02.Same -/
def P10 (a0 : List PV) (a1 : List PV) (Φ : List RV → Prop) : Prop :=
 Ln a0 (Ln a1 (Fk ((a0.length : Int) != (a1.length : Int))
 (Φ [.pv (B false)])
 (SmA (.pv (.sl false a0)) ∧ SmA (.pv (.sl false a1)) ∧ Lo (fun (L2 : Int × Unit → Prop) (v1 : Int × Unit) =>
 Fk (decide (v1.1 < (a0.length : Int)))
 (Ix I a0 v1.1 fun x3 =>
 Ix I a1 v1.1 fun x4 =>
 Fk (x3 != x4)
 (Φ [.pv (B false)])
 (SmA (.pv (.sl false a0)) ∧ SmA (.pv (.sl false a1)) ∧ L2 (w64 (v1.1 + 1), ())))
 (Φ [.pv (B true)])) (0, ()))))
theorem t10 (a0 : List PV) (a1 : List PV) {Φ : List RV → Prop} (h : P10 a0 a1 Φ) : CtP Try.prog 10 [.sl false a0, .sl false a1] Φ :=
  ctP_by h 1000 [(1004, .fork [] []), (1997, .lens [0, 1]), (4003, .fork [] []), (4999, .loop [.k 0 (.pv (.sl false a0)), .k 1 (.pv (.sl false a1)), .c 5 (.int .i64)]), (6002, .ix Int I), (6006, .ix Int I), (6008, .fork [] [])] mixed Try.func10 rfl (by kernel_rfl) (by kernel_rfl)

/-- vec.Min$1 -/
def P25 (a0 : Int) (a1 : Int) (Φ : List RV → Prop) : Prop :=
 Φ [.pv (I (imin a0 a1))]
theorem t25 (a0 : Int) (a1 : Int) {Φ : List RV → Prop} (h : P25 a0 a1 Φ) : CtP Try.prog 25 [I a0, I a1] Φ :=
  ctP_by h 1000 [] mixed Try.func25 rfl (by kernel_rfl) (by kernel_rfl)

/-- vec.join[int] -/
def P21b (b0 : List PV) (b1 : List PV) (Φ : List RV → Prop) : Prop :=
 Ln b0 (Ln b1 (Mk 8 (imax (b0.length : Int) (b1.length : Int)) (imax (b0.length : Int) (b1.length : Int)) (
 Ln (List.replicate ((imax (b0.length : Int) (b1.length : Int)).toNat) (I 0)) (SmA (.pv (.sl false b0)) ∧ SmA (.pv (.sl false b1)) ∧ SmA (.pv (.fn (.func 25) [] [])) ∧ SmA (.pv (I ((imax (b0.length : Int) (b1.length : Int)).toNat : Int))) ∧ Lo (fun (L2 : List PV × Int × Unit → Prop) (v1 : List PV × Int × Unit) =>
 Fk (decide (v1.2.1 < ((imax (b0.length : Int) (b1.length : Int)).toNat : Int)))
 (∃ x3, Cl 29 [.sl false b0, I v1.2.1] [.pv (I x3)] ∧
 ∃ x4, Cl 29 [.sl false b1, I v1.2.1] [.pv (I x4)] ∧
 ∃ x5, Cl 25 [I x3, I x4] [.pv (I x5)] ∧
 Rx v1.2.1 v1.1.length (
 Ld I v1.1 (0 + v1.2.1.toNat) fun x6 =>
 SmA (.pv (.sl false b0)) ∧ SmA (.pv (.sl false b1)) ∧ SmA (.pv (.fn (.func 25) [] [])) ∧ SmA (.pv (I ((imax (b0.length : Int) (b1.length : Int)).toNat : Int))) ∧ L2 (v1.1.set (0 + v1.2.1.toNat) (I x5), w64 (v1.2.1 + 1), ())))
 (Φ [.fresh 3 1 v1.1])) (List.replicate ((imax (b0.length : Int) (b1.length : Int)).toNat) (I 0), 0, ())))))
theorem t21b (b0 : List PV) (b1 : List PV) {Φ : List RV → Prop} (h : P21b b0 b1 Φ) : CtP Try.prog 21 [.sl false b0, .sl false b1, .fn (.func 25) [] []] Φ :=
  ctP_by h 1000 [(1005, .mk), (1997, .lens [0, 1]), (2997, .lens [7]), (3000, .fork [] []), (3999, .loop [.k 0 (.pv (.sl false b0)), .k 1 (.pv (.sl false b1)), .k 2 (.pv (.fn (.func 25) [] [])), .r 7 3 1, .k 16 (.pv (I ((imax (b0.length : Int) (b1.length : Int)).toNat : Int))), .c 17 (.int .i64)]), (5005, .call [.pv (.int .i64)]), (5008, .call [.pv (.int .i64)]), (5009, .call [.pv (.int .i64)]), (5010, .ixr), (5011, .st Int I)] mixed Try.func21 rfl (by kernel_rfl) (by kernel_rfl)

/-- vec.Min -/
def P13 (a0 : List PV) (a1 : List PV) (Φ : List RV → Prop) : Prop :=
 ∃ x1, Cl 21 [.sl false a0, .sl false a1, .fn (.func 25) [] []] [.pv (.sl false (List.map I x1))] ∧
 Φ [.pv (.sl false (List.map I x1))]
theorem t13 (a0 : List PV) (a1 : List PV) {Φ : List RV → Prop} (h : P13 a0 a1 Φ) : CtP Try.prog 13 [.sl false a0, .sl false a1] Φ :=
  ctP_by h 1000 [(1002, .call [.pv (.ty (List Int) lI)])] mixed Try.func13 rfl (by kernel_rfl) (by kernel_rfl)

/-- vec.Least -/
def P17 (a0 : List PV) (a1 : Int) (Φ : List RV → Prop) : Prop :=
 Ln a0 (Fk ((a0.length : Int) == 0)
 (Φ [.pv (I 0)])
 (Ix lI a0 0 fun x1 =>
 ∃ x2, Cl 29 [.sl false (List.map I x1), I a1] [.pv (I x2)] ∧
 Sd 1 a0 1 (
 SmA (.pv (I a1)) ∧ SmA (.pv (.sl false (List.drop 1 a0))) ∧ SmA (.pv (I ((List.drop 1 a0).length : Int))) ∧ Lo (fun (L4 : Int × Int × Unit → Prop) (v3 : Int × Int × Unit) =>
 Fk (decide (v3.2.1 < ((List.drop 1 a0).length : Int)))
 (Ix lI (List.drop 1 a0) v3.2.1 fun x5 =>
 ∃ x6, Cl 29 [.sl false (List.map I x5), I a1] [.pv (I x6)] ∧
 SmA (.pv (I a1)) ∧ SmA (.pv (.sl false (List.drop 1 a0))) ∧ SmA (.pv (I ((List.drop 1 a0).length : Int))) ∧ L4 (imin v3.1 x6, w64 (v3.2.1 + 1), ()))
 (Φ [.pv (I v3.1)])) (x2, 0, ()))))
theorem t17 (a0 : List PV) (a1 : Int) {Φ : List RV → Prop} (h : P17 a0 a1 Φ) : CtP Try.prog 17 [.sl false a0, I a1] Φ :=
  ctP_by h 1000 [(1002, .fork [] []), (1997, .lens [0]), (3001, .ix (List Int) lI), (3004, .call [.pv (.int .i64)]), (4001, .slc), (5000, .fork [] []), (5999, .loop [.k 1 (.pv (I a1)), .c 5 (.int .i64), .k 17 (.pv (.sl false (List.drop 1 a0))), .k 18 (.pv (I ((List.drop 1 a0).length : Int))), .c 19 (.int .i64)]), (6000, .ix (List Int) lI), (7003, .call [.pv (.int .i64)])] mixed Try.func17 rfl (by kernel_rfl) (by kernel_rfl)

/-- vec.Below$1 -/
def P28 (a0 : Int) (a1 : Int) (Φ : List RV → Prop) : Prop :=
 Φ [.pv (B (decide (a0 ≤ a1)))]
theorem t28 (a0 : Int) (a1 : Int) {Φ : List RV → Prop} (h : P28 a0 a1 Φ) : CtP Try.prog 28 [I a0, I a1] Φ :=
  ctP_by h 1000 [] mixed Try.func28 rfl (by kernel_rfl) (by kernel_rfl)

/-- vec.join[bool] -/
def P27a (b0 : List PV) (b1 : List PV) (Φ : List RV → Prop) : Prop :=
 Ln b0 (Ln b1 (Mk 1 (imax (b0.length : Int) (b1.length : Int)) (imax (b0.length : Int) (b1.length : Int)) (
 Ln (List.replicate ((imax (b0.length : Int) (b1.length : Int)).toNat) (B false)) (SmA (.pv (.sl false b0)) ∧ SmA (.pv (.sl false b1)) ∧ SmA (.pv (.fn (.func 28) [] [])) ∧ SmA (.pv (I ((imax (b0.length : Int) (b1.length : Int)).toNat : Int))) ∧ Lo (fun (L2 : List PV × Int × Unit → Prop) (v1 : List PV × Int × Unit) =>
 Fk (decide (v1.2.1 < ((imax (b0.length : Int) (b1.length : Int)).toNat : Int)))
 (∃ x3, Cl 29 [.sl false b0, I v1.2.1] [.pv (I x3)] ∧
 ∃ x4, Cl 29 [.sl false b1, I v1.2.1] [.pv (I x4)] ∧
 ∃ x5, Cl 28 [I x3, I x4] [.pv (B x5)] ∧
 Rx v1.2.1 v1.1.length (
 Ld B v1.1 (0 + v1.2.1.toNat) fun x6 =>
 SmA (.pv (.sl false b0)) ∧ SmA (.pv (.sl false b1)) ∧ SmA (.pv (.fn (.func 28) [] [])) ∧ SmA (.pv (I ((imax (b0.length : Int) (b1.length : Int)).toNat : Int))) ∧ L2 (v1.1.set (0 + v1.2.1.toNat) (B x5), w64 (v1.2.1 + 1), ())))
 (Φ [.fresh 4 1 v1.1])) (List.replicate ((imax (b0.length : Int) (b1.length : Int)).toNat) (B false), 0, ())))))
theorem t27a (b0 : List PV) (b1 : List PV) {Φ : List RV → Prop} (h : P27a b0 b1 Φ) : CtP Try.prog 27 [.sl false b0, .sl false b1, .fn (.func 28) [] []] Φ :=
  ctP_by h 1000 [(1005, .mk), (1997, .lens [0, 1]), (2997, .lens [7]), (3000, .fork [] []), (3999, .loop [.k 0 (.pv (.sl false b0)), .k 1 (.pv (.sl false b1)), .k 2 (.pv (.fn (.func 28) [] [])), .r 7 4 1, .k 16 (.pv (I ((imax (b0.length : Int) (b1.length : Int)).toNat : Int))), .c 17 (.int .i64)]), (5005, .call [.pv (.int .i64)]), (5008, .call [.pv (.int .i64)]), (5009, .call [.pv .bool]), (5010, .ixr), (5011, .st Bool B)] mixed Try.func27 rfl (by kernel_rfl) (by kernel_rfl)

/-- slices.Index[[]bool,bool] -/
def P30 (a0 : List PV) (a1 : Bool) (Φ : List RV → Prop) : Prop :=
 Ln a0 (SmA (.pv (.sl false a0)) ∧ SmA (.pv (B a1)) ∧ SmA (.pv (I (a0.length : Int))) ∧ Lo (fun (L2 : Int × Unit → Prop) (v1 : Int × Unit) =>
 Fk (decide (v1.1 < (a0.length : Int)))
 (Ix B a0 v1.1 fun x3 =>
 Fk (a1 == x3)
 (Φ [.pv (I v1.1)])
 (SmA (.pv (.sl false a0)) ∧ SmA (.pv (B a1)) ∧ SmA (.pv (I (a0.length : Int))) ∧ L2 (w64 (v1.1 + 1), ())))
 (Φ [.pv (I (-1))])) (0, ()))
theorem t30 (a0 : List PV) (a1 : Bool) {Φ : List RV → Prop} (h : P30 a0 a1 Φ) : CtP Try.prog 30 [.sl false a0, B a1] Φ :=
  ctP_by h 1000 [(1997, .lens [0]), (2000, .fork [] []), (2999, .loop [.k 0 (.pv (.sl false a0)), .k 1 (.pv (B a1)), .k 7 (.pv (I (a0.length : Int))), .c 8 (.int .i64)]), (4003, .ix Bool B), (4005, .fork [] [])] mixed Try.func30 rfl (by kernel_rfl) (by kernel_rfl)

/-- slices.Contains[[]bool,bool] -/
def P26 (a0 : List PV) (a1 : Bool) (Φ : List RV → Prop) : Prop :=
 ∃ x1, Cl 30 [.sl false a0, B a1] [.pv (I x1)] ∧
 Φ [.pv (B (decide (0 ≤ x1)))]
theorem t26 (a0 : List PV) (a1 : Bool) {Φ : List RV → Prop} (h : P26 a0 a1 Φ) : CtP Try.prog 26 [.sl false a0, B a1] Φ :=
  ctP_by h 1000 [(1002, .call [.pv (.int .i64)])] mixed Try.func26 rfl (by kernel_rfl) (by kernel_rfl)

/-- vec.Below -/
def P15 (a0 : List PV) (a1 : List PV) (Φ : List RV → Prop) : Prop :=
 ∃ x1, Cl 27 [.sl false a0, .sl false a1, .fn (.func 28) [] []] [.pv (.sl false (List.map B x1))] ∧
 ∃ x2, Cl 26 [.sl false (List.map B x1), B false] [.pv (B x2)] ∧
 Φ [.pv (B (!x2))]
theorem t15 (a0 : List PV) (a1 : List PV) {Φ : List RV → Prop} (h : P15 a0 a1 Φ) : CtP Try.prog 15 [.sl false a0, .sl false a1] Φ :=
  ctP_by h 1000 [(1002, .call [.pv (.ty (List Bool) lB)]), (1003, .call [.pv .bool])] mixed Try.func15 rfl (by kernel_rfl) (by kernel_rfl)

/-- vec.Sum -/
def P19 (a0 : List PV) (Φ : List RV → Prop) : Prop :=
 Ln a0 (SmA (.pv (.sl false a0)) ∧ SmA (.pv (I (a0.length : Int))) ∧ Lo (fun (L2 : Int × Int × Unit → Prop) (v1 : Int × Int × Unit) =>
 Fk (decide (v1.2.1 < (a0.length : Int)))
 (Ix I a0 v1.2.1 fun x3 =>
 SmA (.pv (.sl false a0)) ∧ SmA (.pv (I (a0.length : Int))) ∧ L2 (w64 (v1.1 + x3), w64 (v1.2.1 + 1), ()))
 (Φ [.pv (I v1.1)])) (0, 0, ()))
theorem t19 (a0 : List PV) {Φ : List RV → Prop} (h : P19 a0 Φ) : CtP Try.prog 19 [.sl false a0] Φ :=
  ctP_by h 1000 [(2997, .lens [0]), (3000, .fork [] []), (3999, .loop [.c 3 (.int .i64), .k 6 (.pv (.sl false a0)), .k 7 (.pv (I (a0.length : Int))), .c 8 (.int .i64)]), (4000, .ix Int I)] mixed Try.func19 rfl (by kernel_rfl) (by kernel_rfl)

/-- precentorlaw07.shown -/
def P8  (Φ : List RV → Prop) : Prop :=
 ∃ x1, Cl 11 [.sl false [I 1, I 5], .sl false [I 3, I 2, I 4]] [.pv (.sl false (List.map I x1))] ∧
 ∃ x2, Cl 10 [.sl false (List.map I x1), .sl false [I 3, I 5, I 4]] [.pv (B x2)] ∧
 Fk x2
 (∃ x3, Cl 13 [.sl false [I 1, I 5], .sl false [I 3, I 2, I 4]] [.pv (.sl false (List.map I x3))] ∧
 ∃ x4, Cl 10 [.sl false (List.map I x3), .sl false [I 1, I 2, I 0]] [.pv (B x4)] ∧
 Fk x4
 (∃ x5, Cl 17 [.sl false [.sl false [I 1, I 5], .sl false [I 3, I 2, I 4]], I 1] [.pv (I x5)] ∧
 Fk (x5 == 2)
 (∃ x6, Cl 17 [.sl false [.sl false [I 1, I 5], .sl false [I 3, I 2, I 4]], I 2] [.pv (I x6)] ∧
 Fk (x6 == 0)
 (∃ x7, Cl 15 [.sl false [I 1, I 5], .sl false [I 3, I 2, I 4]] [.pv (B x7)] ∧
 Fk (!x7)
 (∃ x8, Cl 11 [.sl false [I 1, I 5], .sl false [I 3, I 2, I 4]] [.pv (.sl false (List.map I x8))] ∧
 ∃ x9, Cl 15 [.sl false [I 1, I 5], .sl false (List.map I x8)] [.pv (B x9)] ∧
 Fk x9
 (∃ x10, Cl 19 [.sl false [I 3, I 2, I 4]] [.pv (I x10)] ∧
 Fk (x10 == 9)
 (∃ x11, Cl 17 [.sl true [], I 0] [.pv (I x11)] ∧
 Φ [.pv (B (x11 == 0))])
 (Φ [.pv (B false)]))
 (Φ [.pv (B false)]))
 (Φ [.pv (B false)]))
 (Φ [.pv (B false)]))
 (Φ [.pv (B false)]))
 (Φ [.pv (B false)]))
 (Φ [.pv (B false)])
theorem t8  {Φ : List RV → Prop} (h : P8  Φ) : CtP Try.prog 8 [] Φ :=
  ctP_by h 1000 [(3002, .call [.pv (.ty (List Int) lI)]), (3004, .call [.pv .bool]), (3005, .fork [] [(3012, .off), (3019, .off), (3026, .off), (3032, .off), (3039, .off), (3044, .off)]), (3008, .call [.pv (.ty (List Int) lI)]), (3010, .call [.pv .bool]), (3012, .fork [] [(3019, .off), (3026, .off), (3032, .off), (3039, .off), (3044, .off)]), (3016, .call [.pv (.int .i64)]), (3019, .fork [] [(3026, .off), (3032, .off), (3039, .off), (3044, .off)]), (3023, .call [.pv (.int .i64)]), (3026, .fork [] [(3032, .off), (3039, .off), (3044, .off)]), (3029, .call [.pv .bool]), (3032, .fork [] [(3039, .off), (3044, .off)]), (3036, .call [.pv (.ty (List Int) lI)]), (3037, .call [.pv .bool]), (3039, .fork [] [(3044, .off)]), (3041, .call [.pv (.int .i64)]), (3044, .fork [] []), (3045, .call [.pv (.int .i64)])] mixed Try.func8 rfl (by kernel_rfl) (by kernel_rfl)

/-- precentorlaw07.few -/
def P9 (a0 : List PV) (Φ : List RV → Prop) : Prop :=
 Ln a0 (Fk (decide (50 < (a0.length : Int)))
 (Φ [.pv (B false)])
 (SmA (.pv (.sl false a0)) ∧ Lo (fun (L2 : Int × Unit → Prop) (v1 : Int × Unit) =>
 Fk (decide (v1.1 < (a0.length : Int)))
 (Ix lI a0 v1.1 fun x3 =>
 Fk (decide (50 < ((List.map I x3).length : Int)))
 (Φ [.pv (B false)])
 (SmA (.pv (.sl false a0)) ∧ L2 (w64 (v1.1 + 1), ())))
 (Φ [.pv (B true)])) (0, ())))
theorem t9 (a0 : List PV) {Φ : List RV → Prop} (h : P9 a0 Φ) : CtP Try.prog 9 [.sl false a0] Φ :=
  ctP_by h 1000 [(1002, .fork [] []), (1997, .lens [0]), (4003, .fork [] []), (4999, .loop [.k 0 (.pv (.sl false a0)), .c 3 (.int .i64)]), (6002, .ix (List Int) lI), (6005, .fork [] [])] mixed Try.func9 rfl (by kernel_rfl) (by kernel_rfl)

/-- precentorlaw07.VecLeast -/
def P6 (a0 : VecLeastIn) (Φ : List RV → Prop) : Prop :=
 ∃ x1, Cl 8 [] [.pv (B x1)] ∧
 Ln (List.map lI a0.l) (Ln (List.map I a0.more) (∃ x2, Cl 9 [.sl false (List.map lI a0.l)] [.pv (B x2)] ∧
 Fk (!x2)
 (Φ [.pv (B x1)])
 (Fk (decide (((List.map lI a0.l).length : Int) < 1))
 (Φ [.pv (B x1)])
 (Fk (decide (50 < ((List.map I a0.more).length : Int)))
 (Φ [.pv (B x1)])
 (Nz 60 (
 ∃ x3, Cl 17 [.sl false (List.map lI a0.l), I (Int.tmod (w64 (a0.i.toNat : Int)) 60)] [.pv (I x3)] ∧
 SmA (.pv (.sl false (List.map lI a0.l))) ∧ SmA (.pv (.sl false (List.map I a0.more))) ∧ SmA (.pv (U8 a0.k)) ∧ SmA (.pv (I (Int.tmod (w64 (a0.i.toNat : Int)) 60))) ∧ Lo (fun (L5 : Bool × Int × Bool × Int × Unit → Prop) (v4 : Bool × Int × Bool × Int × Unit) =>
 Fk (decide (v4.2.2.2.1 < ((List.map lI a0.l).length : Int)))
 (Jn (fun v6 : Bool × Int × Bool × Int × Unit =>
 SmA (.pv (.sl false (List.map lI a0.l))) ∧ SmA (.pv (.sl false (List.map I a0.more))) ∧ SmA (.pv (U8 a0.k)) ∧ SmA (.pv (I (Int.tmod (w64 (a0.i.toNat : Int)) 60))) ∧ L5 (v6.1, v6.2.1, v6.2.2.1, w64 (v6.2.2.2.1 + 1), ())) (fun j7 =>
 (fun j7 : Bool × Int × Bool × Int × Unit → Prop =>
 ∃ x8, Cl 19 [.sl true []] [.pv (I x8)] ∧
 Jn (fun v9 : Bool × Int × Bool × Int × Int × Unit =>
 Fk (decide (v9.2.2.2.2.1 < v9.2.1))
 (Φ [.pv (B false)])
 (Fk v9.2.2.1
 (j7 (v9.1, v9.2.1, true, v9.2.2.2.1, ()))
 (j7 (v9.1, v9.2.1, v9.2.2.2.2.1 == v9.2.1, v9.2.2.2.1, ())))) (fun j10 =>
 (fun j10 : Bool × Int × Bool × Int × Int × Unit → Prop =>
 Ix lI (List.map lI a0.l) v4.2.2.2.1 fun x11 =>
 Fk (decide ((Int.tmod (w64 (a0.i.toNat : Int)) 60) < ((List.map I x11).length : Int)))
 (Ix lI (List.map lI a0.l) v4.2.2.2.1 fun x12 =>
 Ix I (List.map I x12) (Int.tmod (w64 (a0.i.toNat : Int)) 60) fun x13 =>
 j10 (v4.1, v4.2.1, v4.2.2.1, v4.2.2.2.1, x13, ()))
 (j10 (v4.1, v4.2.1, v4.2.2.1, v4.2.2.2.1, x8, ()))) (fun v => SmA (.pv (.sl false (List.map lI a0.l))) ∧ SmA (.pv (.sl false (List.map I a0.more))) ∧ SmA (.pv (U8 a0.k)) ∧ SmA (.pv (I (Int.tmod (w64 (a0.i.toNat : Int)) 60))) ∧ j10 v))) (fun v => SmA (.pv (.sl false (List.map lI a0.l))) ∧ SmA (.pv (.sl false (List.map I a0.more))) ∧ SmA (.pv (U8 a0.k)) ∧ SmA (.pv (I (Int.tmod (w64 (a0.i.toNat : Int)) 60))) ∧ j7 v)))
 (Ok (okNews 1 (List.map lI a0.l)) (Sz 0 ((List.map lI a0.l).length) 24 (
 Nz ((List.map lI a0.l).length : Int) (
 Ix lI (List.map lI a0.l) (Int.tmod (w64 (a0.k.toNat : Int)) ((List.map lI a0.l).length : Int)) fun x14 =>
 ∃ x15, Cl 11 [.sl false (List.map I x14), .sl false (List.map I a0.more)] [.pv (.sl false (List.map I x15))] ∧
 Rx (Int.tmod (w64 (a0.k.toNat : Int)) ((List.map lI a0.l).length : Int)) (0 + (List.map lI a0.l).length) (
 Ld lI (List.map lI a0.l) (0 + (Int.tmod (w64 (a0.k.toNat : Int)) ((List.map lI a0.l).length : Int)).toNat) fun x16 =>
 Fk v4.1
 (Fk v4.2.2.1
 (∃ x17, Cl 17 [.sl false ((List.map lI a0.l).set (0 + (Int.tmod (w64 (a0.k.toNat : Int)) ((List.map lI a0.l).length : Int)).toNat) (.sl false (List.map I x15))), I (Int.tmod (w64 (a0.i.toNat : Int)) 60)] [.pv (I x17)] ∧
 Φ [.pv (B (decide (v4.2.1 ≤ x17)))])
 (Φ [.pv (B false)]))
 (Φ [.pv (B false)]))))))) (x1, x3, false, 0, ())))))))
theorem t6 (a0 : VecLeastIn) {Φ : List RV → Prop} (h : P6 a0 Φ) : CtP Try.prog 6 [eVecLeastIn a0] Φ :=
  ctP_by h 1000 [(5000, .call [.pv .bool]), (6001, .call [.pv .bool]), (6003, .fork [(6012, .off), (6008, .off)] []), (6008, .fork [(6012, .off)] []), (6012, .fork [] []), (6997, .lens [3, 4]), (8002, .div), (9002, .call [.pv (.int .i64)]), (12003, .fork [] []), (12999, .loop [.k 3 (.pv (.sl false (List.map lI a0.l))), .k 4 (.pv (.sl false (List.map I a0.more))), .k 6 (.pv (U8 a0.k)), .c 7 .bool, .k 8 (.pv (I (Int.tmod (w64 (a0.i.toNat : Int)) 60))), .c 9 (.int .i64), .c 10 .bool, .c 11 (.int .i64)]), (13998, .join [.k 3 (.pv (.sl false (List.map lI a0.l))), .k 4 (.pv (.sl false (List.map I a0.more))), .k 6 (.pv (U8 a0.k)), .c 7 .bool, .k 8 (.pv (I (Int.tmod (w64 (a0.i.toNat : Int)) 60))), .c 9 (.int .i64), .c 10 .bool, .c 11 (.int .i64)]), (14000, .call [.pv (.int .i64)]), (15003, .ix (List Int) lI), (15006, .fork [] []), (16002, .ix (List Int) lI), (16005, .ix Int I), (17002, .fork [] []), (17998, .join [.k 3 (.pv (.sl false (List.map lI a0.l))), .k 4 (.pv (.sl false (List.map I a0.more))), .k 6 (.pv (U8 a0.k)), .c 7 .bool, .k 8 (.pv (I (Int.tmod (w64 (a0.i.toNat : Int)) 60))), .c 9 (.int .i64), .c 10 .bool, .c 11 (.int .i64), .c 12 (.int .i64)]), (19001, .fork [] []), (20002, .app true false), (21004, .div), (22004, .ix (List Int) lI), (22007, .call [.pv (.ty (List Int) lI)]), (22008, .ixr), (22009, .st (List Int) lI), (23001, .fork [] [(23004, .off)]), (23004, .fork [] []), (23007, .call [.pv (.int .i64)])] mixed Try.func6 rfl (by kernel_rfl) (by kernel_rfl)
end Go.Proofs.Ytemaikelagchcaa.M
