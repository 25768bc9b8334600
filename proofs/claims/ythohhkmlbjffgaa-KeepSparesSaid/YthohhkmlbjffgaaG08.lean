/- The functions of this seat: what must be shown of each (P..), and that it is enough (t..) (written by a program of this session; no condition). -/
import Derived.Test.YthohhkmlbjffgaaProg
import Derived.KernelRfl
import Derived.Test.YthohhkmlbjffgaaMx24
set_option linter.all false
set_option linter.unusedVariables false
set_option linter.unusedSimpArgs false
set_option linter.unnecessarySimpa false
namespace Go.Proofs.Ythohhkmlbjffgaa.M
open Go Go.Mir Go.Proofs
set_option maxRecDepth 100000

abbrev Cl (g : Nat) (ps : List PV) (rs : List RV) : Prop := Ct Try.prog g ps rs
theorem mixed : Try.prog.follows .mixedOrders = true := by kernel_rfl
structure Item where
  mk ::
  kind : Int
  seq : Int
  epoch : Int
  index : Int
  total : Int
  count : Int
  l : List Int
  body : List UInt8
abbrev eItem (x : Item) : PV := .agg [I x.kind, I x.seq, I x.epoch, I x.index, I x.total, I x.count, .sl false (List.map I x.l), .sl false (List.map U8 x.body)]
abbrev lItem (l : List Item) : PV := .sl false (l.map eItem)
structure Keep where
  mk ::
  next : Int
  l : List Item
abbrev eKeep (x : Keep) : PV := .agg [I x.next, .sl false (List.map eItem x.l)]
abbrev lKeep (l : List Keep) : PV := .sl false (l.map eKeep)
structure KeepTellsIn where
  mk ::
  k : Keep
  o : Keep
  it : Item
  buf : Int
  spare : Int
abbrev eKeepTellsIn (x : KeepTellsIn) : PV := .agg [I x.k.next, .sl false (List.map eItem x.k.l), I x.o.next, .sl false (List.map eItem x.o.l), I x.it.kind, I x.it.seq, I x.it.epoch, I x.it.index, I x.it.total, I x.it.count, .sl false (List.map I x.it.l), .sl false (List.map U8 x.it.body), I x.buf, I x.spare]
abbrev lKeepTellsIn (l : List KeepTellsIn) : PV := .sl false (l.map eKeepTellsIn)
structure KeepStaysIn where
  mk ::
  k : Keep
  it : Item
  buf : Int
  spare : Int
  upto : Int
abbrev eKeepStaysIn (x : KeepStaysIn) : PV := .agg [I x.k.next, .sl false (List.map eItem x.k.l), I x.it.kind, I x.it.seq, I x.it.epoch, I x.it.index, I x.it.total, I x.it.count, .sl false (List.map I x.it.l), .sl false (List.map U8 x.it.body), I x.buf, I x.spare, I x.upto]
abbrev lKeepStaysIn (l : List KeepStaysIn) : PV := .sl false (l.map eKeepStaysIn)
structure KeepSparesIn where
  mk ::
  k : Keep
  buf : UInt8
  a : UInt8
  b : UInt8
abbrev eKeepSparesIn (x : KeepSparesIn) : PV := .agg [I x.k.next, .sl false (List.map eItem x.k.l), U8 x.buf, U8 x.a, U8 x.b]
abbrev lKeepSparesIn (l : List KeepSparesIn) : PV := .sl false (l.map eKeepSparesIn)
/-- keep.New -/
def P16  (Φ : List RV → Prop) : Prop :=
 Φ [.pv (.agg [I 1, .sl true []])]
theorem t16  {Φ : List RV → Prop} (h : P16  Φ) : CtP Try.prog 16 [] Φ :=
  ctP_by h 1000 [] mixed Try.func16 rfl (by kernel_rfl) (by kernel_rfl)

/-- item.rules -/
def P37 (a0 : Item) (Φ : List RV → Prop) : Prop :=
 Φ [.pv (.map [(.int .i64 1, .fn (.func 48) [] [.ip [I a0.kind, I a0.seq, I a0.epoch, I a0.index, I a0.total, I a0.count, .sl false (List.map I a0.l), .sl false (List.map U8 a0.body)] 0]), (.int .i64 2, .fn (.func 49) [] [.ip [.fn (.func 43) [] [.ip [I a0.kind, I a0.seq, I a0.epoch, I a0.index, I a0.total, I a0.count, .sl false (List.map I a0.l), .sl false (List.map U8 a0.body)] 0]] 0, .ip [.fn (.func 44) [] [.ip [I a0.kind, I a0.seq, I a0.epoch, I a0.index, I a0.total, I a0.count, .sl false (List.map I a0.l), .sl false (List.map U8 a0.body)] 0]] 0, .ip [.fn (.func 45) [] [.ip [I a0.kind, I a0.seq, I a0.epoch, I a0.index, I a0.total, I a0.count, .sl false (List.map I a0.l), .sl false (List.map U8 a0.body)] 0]] 0]), (.int .i64 3, .fn (.func 50) [] [.ip [.fn (.func 43) [] [.ip [I a0.kind, I a0.seq, I a0.epoch, I a0.index, I a0.total, I a0.count, .sl false (List.map I a0.l), .sl false (List.map U8 a0.body)] 0]] 0, .ip [.fn (.func 47) [] [.ip [I a0.kind, I a0.seq, I a0.epoch, I a0.index, I a0.total, I a0.count, .sl false (List.map I a0.l), .sl false (List.map U8 a0.body)] 0]] 0]), (.int .i64 4, .fn (.func 51) [] [.ip [.fn (.func 43) [] [.ip [I a0.kind, I a0.seq, I a0.epoch, I a0.index, I a0.total, I a0.count, .sl false (List.map I a0.l), .sl false (List.map U8 a0.body)] 0]] 0, .ip [.fn (.func 44) [] [.ip [I a0.kind, I a0.seq, I a0.epoch, I a0.index, I a0.total, I a0.count, .sl false (List.map I a0.l), .sl false (List.map U8 a0.body)] 0]] 0, .ip [.fn (.func 47) [] [.ip [I a0.kind, I a0.seq, I a0.epoch, I a0.index, I a0.total, I a0.count, .sl false (List.map I a0.l), .sl false (List.map U8 a0.body)] 0]] 0]), (.int .i64 5, .fn (.func 52) [] [.ip [.fn (.func 43) [] [.ip [I a0.kind, I a0.seq, I a0.epoch, I a0.index, I a0.total, I a0.count, .sl false (List.map I a0.l), .sl false (List.map U8 a0.body)] 0]] 0, .ip [.fn (.func 47) [] [.ip [I a0.kind, I a0.seq, I a0.epoch, I a0.index, I a0.total, I a0.count, .sl false (List.map I a0.l), .sl false (List.map U8 a0.body)] 0]] 0, .ip [I a0.kind, I a0.seq, I a0.epoch, I a0.index, I a0.total, I a0.count, .sl false (List.map I a0.l), .sl false (List.map U8 a0.body)] 0]), (.int .i64 6, .fn (.func 53) [] [.ip [.fn (.func 43) [] [.ip [I a0.kind, I a0.seq, I a0.epoch, I a0.index, I a0.total, I a0.count, .sl false (List.map I a0.l), .sl false (List.map U8 a0.body)] 0]] 0, .ip [.fn (.func 45) [] [.ip [I a0.kind, I a0.seq, I a0.epoch, I a0.index, I a0.total, I a0.count, .sl false (List.map I a0.l), .sl false (List.map U8 a0.body)] 0]] 0])])]
theorem t37 (a0 : Item) {Φ : List RV → Prop} (h : P37 a0 Φ) : CtP Try.prog 37 [eItem a0] Φ :=
  ctP_by h 1000 [] mixed Try.func37 rfl (by kernel_rfl) (by kernel_rfl)

/-- item.within -/
def P38 (a0 : Int) (a1 : Int) (a2 : Int) (Φ : List RV → Prop) : Prop :=
 Fk (decide (a1 ≤ a0))
 (Φ [.pv (B (decide (a0 ≤ a2)))])
 (Φ [.pv (B false)])
theorem t38 (a0 : Int) (a1 : Int) (a2 : Int) {Φ : List RV → Prop} (h : P38 a0 a1 a2 Φ) : CtP Try.prog 38 [I a0, I a1, I a2] Φ :=
  ctP_by h 1000 [(1003, .fork [] [])] mixed Try.func38 rfl (by kernel_rfl) (by kernel_rfl)

/-- item.rules$5 -/
def P48a (b0 : Item) (Φ : List RV → Prop) : Prop :=
 ∃ x1, Cl 38 [I b0.total, I 1, I 32] [.pv (B x1)] ∧
 Fk x1
 (∃ x2, Cl 38 [I b0.index, I 0, I (w64 (b0.total - 1))] [.pv (B x2)] ∧
 Fk x2
 (Fk (b0.count == 0)
 (Fk (((List.map I b0.l).length : Int) == 0)
 (Φ [.pv (B (decide (((List.map U8 b0.body).length : Int) ≤ 1024)))])
 (Φ [.pv (B false)]))
 (Φ [.pv (B false)]))
 (Φ [.pv (B false)]))
 (Φ [.pv (B false)])
theorem t48a (b0 : Item) {Φ : List RV → Prop} (h : P48a b0 Φ) : CtP Try.prog 48 [.ip ((eItem b0).cells) 0] Φ :=
  ctP_by h 1000 [(1002, .call [.pv .bool]), (1003, .fork [] [(1011, .off), (1016, .off), (1022, .off)]), (1009, .call [.pv .bool]), (1011, .fork [] [(1016, .off), (1022, .off)]), (1016, .fork [] [(1022, .off)]), (1022, .fork [] [])] mixed Try.func48 rfl (by kernel_rfl) (by kernel_rfl)

/-- item.rules$1 -/
def P43a (b0 : Bool) (b1 : Bool) (b2 : Item) (Φ : List RV → Prop) : Prop :=
 Fk (b2.total == 0)
 (Fk b0
 (Fk b1
 (Φ [.pv (B true)])
 (Φ [.pv (B (b2.count == 0))]))
 (Fk (b2.index == 0)
 (Fk b1
 (Φ [.pv (B true)])
 (Φ [.pv (B (b2.count == 0))]))
 (Φ [.pv (B false)])))
 (Φ [.pv (B false)])
theorem t43a (b0 : Bool) (b1 : Bool) (b2 : Item) {Φ : List RV → Prop} (h : P43a b0 b1 b2 Φ) : CtP Try.prog 43 [B b0, B b1, .ip ((eItem b2).cells) 0] Φ :=
  ctP_by h 1000 [(1003, .fork [] [(1011, .off)]), (1005, .fork [(1011, .off)] []), (1011, .fork [] []), (1013, .fork [] [])] mixed Try.func43 rfl (by kernel_rfl) (by kernel_rfl)

/-- item.rules$2 -/
def P44a (b0 : Item) (Φ : List RV → Prop) : Prop :=
 ∃ x1, Cl 38 [I b0.index, I 0, I 1] [.pv (B x1)] ∧
 Φ [.pv (B x1)]
theorem t44a (b0 : Item) {Φ : List RV → Prop} (h : P44a b0 Φ) : CtP Try.prog 44 [.ip ((eItem b0).cells) 0] Φ :=
  ctP_by h 1000 [(1002, .call [.pv .bool])] mixed Try.func44 rfl (by kernel_rfl) (by kernel_rfl)

/-- item.each -/
def P46 (a0 : List PV) (a1 : Int) (Φ : List RV → Prop) : Prop :=
 Ln a0 (SmA (.pv (I a1)) ∧ SmA (.pv (.sl false a0)) ∧ SmA (.pv (I (a0.length : Int))) ∧ Lo (fun (L2 : Int × Unit → Prop) (v1 : Int × Unit) =>
 Fk (decide (v1.1 < (a0.length : Int)))
 (Ix I a0 v1.1 fun x3 =>
 ∃ x4, Cl 38 [I x3, I 0, I a1] [.pv (B x4)] ∧
 Fk (!x4)
 (Φ [.pv (B false)])
 (SmA (.pv (I a1)) ∧ SmA (.pv (.sl false a0)) ∧ SmA (.pv (I (a0.length : Int))) ∧ L2 (w64 (v1.1 + 1), ())))
 (Φ [.pv (B true)])) (0, ()))
theorem t46 (a0 : List PV) (a1 : Int) {Φ : List RV → Prop} (h : P46 a0 a1 Φ) : CtP Try.prog 46 [.sl false a0, I a1] Φ :=
  ctP_by h 1000 [(1997, .lens [0]), (2000, .fork [] []), (2999, .loop [.k 1 (.pv (I a1)), .k 7 (.pv (.sl false a0)), .k 8 (.pv (I (a0.length : Int))), .c 9 (.int .i64)]), (3000, .ix Int I), (4002, .call [.pv .bool]), (4003, .fork [] [])] mixed Try.func46 rfl (by kernel_rfl) (by kernel_rfl)

/-- item.rules$3 -/
def P45a (b0 : Int) (b1 : Int) (b2 : Int) (b3 : Item) (Φ : List RV → Prop) : Prop :=
 ∃ x1, Cl 38 [I ((List.map I b3.l).length : Int), I b0, I b1] [.pv (B x1)] ∧
 Fk x1
 (∃ x2, Cl 46 [.sl false (List.map I b3.l), I b2] [.pv (B x2)] ∧
 Fk x2
 (Φ [.pv (B (((List.map U8 b3.body).length : Int) == 0))])
 (Φ [.pv (B false)]))
 (Φ [.pv (B false)])
theorem t45a (b0 : Int) (b1 : Int) (b2 : Int) (b3 : Item) {Φ : List RV → Prop} (h : P45a b0 b1 b2 b3 Φ) : CtP Try.prog 45 [I b0, I b1, I b2, .ip ((eItem b3).cells) 0] Φ :=
  ctP_by h 1000 [(1005, .call [.pv .bool]), (1006, .fork [] [(1012, .off)]), (1010, .call [.pv .bool]), (1012, .fork [] [])] mixed Try.func45 rfl (by kernel_rfl) (by kernel_rfl)

/-- item.rules$6 -/
def P49a (b0 : Item) (b1 : Item) (b2 : Item) (Φ : List RV → Prop) : Prop :=
 ∃ x1, Cl 43 [B true, B false, .ip ((eItem b0).cells) 0] [.pv (B x1)] ∧
 Fk x1
 (∃ x2, Cl 44 [.ip ((eItem b1).cells) 0] [.pv (B x2)] ∧
 Fk x2
 (∃ x3, Cl 45 [I 1, I 64, I 63, .ip ((eItem b2).cells) 0] [.pv (B x3)] ∧
 Φ [.pv (B x3)])
 (Φ [.pv (B false)]))
 (Φ [.pv (B false)])
theorem t49a (b0 : Item) (b1 : Item) (b2 : Item) {Φ : List RV → Prop} (h : P49a b0 b1 b2 Φ) : CtP Try.prog 49 [.ip [.fn (.func 43) [] [.ip ((eItem b0).cells) 0]] 0, .ip [.fn (.func 44) [] [.ip ((eItem b1).cells) 0]] 0, .ip [.fn (.func 45) [] [.ip ((eItem b2).cells) 0]] 0] Φ :=
  ctP_by h 1000 [(1001, .call [.pv .bool]), (1002, .fork [] [(1006, .off)]), (1004, .call [.pv .bool]), (1006, .fork [] []), (1008, .call [.pv .bool])] mixed Try.func49 rfl (by kernel_rfl) (by kernel_rfl)

/-- item.rules$4 -/
def P47a (b0 : Item) (Φ : List RV → Prop) : Prop :=
 Fk (((List.map I b0.l).length : Int) == 0)
 (Φ [.pv (B (((List.map U8 b0.body).length : Int) == 0))])
 (Φ [.pv (B false)])
theorem t47a (b0 : Item) {Φ : List RV → Prop} (h : P47a b0 Φ) : CtP Try.prog 47 [.ip ((eItem b0).cells) 0] Φ :=
  ctP_by h 1000 [(1004, .fork [] [])] mixed Try.func47 rfl (by kernel_rfl) (by kernel_rfl)

/-- item.rules$7 -/
def P50a (b0 : Item) (b1 : Item) (Φ : List RV → Prop) : Prop :=
 ∃ x1, Cl 43 [B false, B false, .ip ((eItem b0).cells) 0] [.pv (B x1)] ∧
 Fk x1
 (∃ x2, Cl 47 [.ip ((eItem b1).cells) 0] [.pv (B x2)] ∧
 Φ [.pv (B x2)])
 (Φ [.pv (B false)])
theorem t50a (b0 : Item) (b1 : Item) {Φ : List RV → Prop} (h : P50a b0 b1 Φ) : CtP Try.prog 50 [.ip [.fn (.func 43) [] [.ip ((eItem b0).cells) 0]] 0, .ip [.fn (.func 47) [] [.ip ((eItem b1).cells) 0]] 0] Φ :=
  ctP_by h 1000 [(1001, .call [.pv .bool]), (1002, .fork [] []), (1004, .call [.pv .bool])] mixed Try.func50 rfl (by kernel_rfl) (by kernel_rfl)

/-- item.rules$8 -/
def P51a (b0 : Item) (b1 : Item) (b2 : Item) (Φ : List RV → Prop) : Prop :=
 ∃ x1, Cl 43 [B true, B false, .ip ((eItem b0).cells) 0] [.pv (B x1)] ∧
 Fk x1
 (∃ x2, Cl 44 [.ip ((eItem b1).cells) 0] [.pv (B x2)] ∧
 Fk x2
 (∃ x3, Cl 47 [.ip ((eItem b2).cells) 0] [.pv (B x3)] ∧
 Φ [.pv (B x3)])
 (Φ [.pv (B false)]))
 (Φ [.pv (B false)])
theorem t51a (b0 : Item) (b1 : Item) (b2 : Item) {Φ : List RV → Prop} (h : P51a b0 b1 b2 Φ) : CtP Try.prog 51 [.ip [.fn (.func 43) [] [.ip ((eItem b0).cells) 0]] 0, .ip [.fn (.func 44) [] [.ip ((eItem b1).cells) 0]] 0, .ip [.fn (.func 47) [] [.ip ((eItem b2).cells) 0]] 0] Φ :=
  ctP_by h 1000 [(1001, .call [.pv .bool]), (1002, .fork [] [(1006, .off)]), (1004, .call [.pv .bool]), (1006, .fork [] []), (1008, .call [.pv .bool])] mixed Try.func51 rfl (by kernel_rfl) (by kernel_rfl)

/-- item.rules$9 -/
def P52a (b0 : Item) (b1 : Item) (b2 : Item) (Φ : List RV → Prop) : Prop :=
 ∃ x1, Cl 43 [B false, B true, .ip ((eItem b0).cells) 0] [.pv (B x1)] ∧
 Fk x1
 (∃ x2, Cl 47 [.ip ((eItem b1).cells) 0] [.pv (B x2)] ∧
 Fk x2
 (∃ x3, Cl 38 [I b2.count, I 0, I 4611686018427387904] [.pv (B x3)] ∧
 Φ [.pv (B x3)])
 (Φ [.pv (B false)]))
 (Φ [.pv (B false)])
theorem t52a (b0 : Item) (b1 : Item) (b2 : Item) {Φ : List RV → Prop} (h : P52a b0 b1 b2 Φ) : CtP Try.prog 52 [.ip [.fn (.func 43) [] [.ip ((eItem b0).cells) 0]] 0, .ip [.fn (.func 47) [] [.ip ((eItem b1).cells) 0]] 0, .ip ((eItem b2).cells) 0] Φ :=
  ctP_by h 1000 [(1001, .call [.pv .bool]), (1002, .fork [] [(1006, .off)]), (1004, .call [.pv .bool]), (1006, .fork [] []), (1009, .call [.pv .bool])] mixed Try.func52 rfl (by kernel_rfl) (by kernel_rfl)

/-- item.rules$10 -/
def P53a (b0 : Item) (b1 : Item) (Φ : List RV → Prop) : Prop :=
 ∃ x1, Cl 43 [B false, B false, .ip ((eItem b0).cells) 0] [.pv (B x1)] ∧
 Fk x1
 (∃ x2, Cl 45 [I 2, I 64, I 4611686018427387904, .ip ((eItem b1).cells) 0] [.pv (B x2)] ∧
 Φ [.pv (B x2)])
 (Φ [.pv (B false)])
theorem t53a (b0 : Item) (b1 : Item) {Φ : List RV → Prop} (h : P53a b0 b1 Φ) : CtP Try.prog 53 [.ip [.fn (.func 43) [] [.ip ((eItem b0).cells) 0]] 0, .ip [.fn (.func 45) [] [.ip ((eItem b1).cells) 0]] 0] Φ :=
  ctP_by h 1000 [(1001, .call [.pv .bool]), (1002, .fork [] []), (1004, .call [.pv .bool])] mixed Try.func53 rfl (by kernel_rfl) (by kernel_rfl)

/-- item.May -/
def P28 (a0 : Item) (Φ : List RV → Prop) : Prop :=
 Cl 37 [eItem a0] [.pv (.map [(.int .i64 1, .fn (.func 48) [] [.ip [I a0.kind, I a0.seq, I a0.epoch, I a0.index, I a0.total, I a0.count, .sl false (List.map I a0.l), .sl false (List.map U8 a0.body)] 0]), (.int .i64 2, .fn (.func 49) [] [.ip [.fn (.func 43) [] [.ip [I a0.kind, I a0.seq, I a0.epoch, I a0.index, I a0.total, I a0.count, .sl false (List.map I a0.l), .sl false (List.map U8 a0.body)] 0]] 0, .ip [.fn (.func 44) [] [.ip [I a0.kind, I a0.seq, I a0.epoch, I a0.index, I a0.total, I a0.count, .sl false (List.map I a0.l), .sl false (List.map U8 a0.body)] 0]] 0, .ip [.fn (.func 45) [] [.ip [I a0.kind, I a0.seq, I a0.epoch, I a0.index, I a0.total, I a0.count, .sl false (List.map I a0.l), .sl false (List.map U8 a0.body)] 0]] 0]), (.int .i64 3, .fn (.func 50) [] [.ip [.fn (.func 43) [] [.ip [I a0.kind, I a0.seq, I a0.epoch, I a0.index, I a0.total, I a0.count, .sl false (List.map I a0.l), .sl false (List.map U8 a0.body)] 0]] 0, .ip [.fn (.func 47) [] [.ip [I a0.kind, I a0.seq, I a0.epoch, I a0.index, I a0.total, I a0.count, .sl false (List.map I a0.l), .sl false (List.map U8 a0.body)] 0]] 0]), (.int .i64 4, .fn (.func 51) [] [.ip [.fn (.func 43) [] [.ip [I a0.kind, I a0.seq, I a0.epoch, I a0.index, I a0.total, I a0.count, .sl false (List.map I a0.l), .sl false (List.map U8 a0.body)] 0]] 0, .ip [.fn (.func 44) [] [.ip [I a0.kind, I a0.seq, I a0.epoch, I a0.index, I a0.total, I a0.count, .sl false (List.map I a0.l), .sl false (List.map U8 a0.body)] 0]] 0, .ip [.fn (.func 47) [] [.ip [I a0.kind, I a0.seq, I a0.epoch, I a0.index, I a0.total, I a0.count, .sl false (List.map I a0.l), .sl false (List.map U8 a0.body)] 0]] 0]), (.int .i64 5, .fn (.func 52) [] [.ip [.fn (.func 43) [] [.ip [I a0.kind, I a0.seq, I a0.epoch, I a0.index, I a0.total, I a0.count, .sl false (List.map I a0.l), .sl false (List.map U8 a0.body)] 0]] 0, .ip [.fn (.func 47) [] [.ip [I a0.kind, I a0.seq, I a0.epoch, I a0.index, I a0.total, I a0.count, .sl false (List.map I a0.l), .sl false (List.map U8 a0.body)] 0]] 0, .ip [I a0.kind, I a0.seq, I a0.epoch, I a0.index, I a0.total, I a0.count, .sl false (List.map I a0.l), .sl false (List.map U8 a0.body)] 0]), (.int .i64 6, .fn (.func 53) [] [.ip [.fn (.func 43) [] [.ip [I a0.kind, I a0.seq, I a0.epoch, I a0.index, I a0.total, I a0.count, .sl false (List.map I a0.l), .sl false (List.map U8 a0.body)] 0]] 0, .ip [.fn (.func 45) [] [.ip [I a0.kind, I a0.seq, I a0.epoch, I a0.index, I a0.total, I a0.count, .sl false (List.map I a0.l), .sl false (List.map U8 a0.body)] 0]] 0])])] ∧
 Fk (a0.kind == 1)
 (∃ x1, Cl 48 [.ip [I a0.kind, I a0.seq, I a0.epoch, I a0.index, I a0.total, I a0.count, .sl false (List.map I a0.l), .sl false (List.map U8 a0.body)] 0] [.pv (B x1)] ∧
 Fk x1
 (∃ x2, Cl 38 [I a0.seq, I 1, I 4611686018427387904] [.pv (B x2)] ∧
 Fk x2
 (∃ x3, Cl 38 [I a0.epoch, I 0, I 4611686018427387904] [.pv (B x3)] ∧
 Φ [.pv (B x3)])
 (Φ [.pv (B false)]))
 (Φ [.pv (B false)]))
 (Fk (a0.kind == 2)
 (∃ x4, Cl 49 [.ip [.fn (.func 43) [] [.ip [I a0.kind, I a0.seq, I a0.epoch, I a0.index, I a0.total, I a0.count, .sl false (List.map I a0.l), .sl false (List.map U8 a0.body)] 0]] 0, .ip [.fn (.func 44) [] [.ip [I a0.kind, I a0.seq, I a0.epoch, I a0.index, I a0.total, I a0.count, .sl false (List.map I a0.l), .sl false (List.map U8 a0.body)] 0]] 0, .ip [.fn (.func 45) [] [.ip [I a0.kind, I a0.seq, I a0.epoch, I a0.index, I a0.total, I a0.count, .sl false (List.map I a0.l), .sl false (List.map U8 a0.body)] 0]] 0] [.pv (B x4)] ∧
 Fk x4
 (∃ x5, Cl 38 [I a0.seq, I 1, I 4611686018427387904] [.pv (B x5)] ∧
 Fk x5
 (∃ x6, Cl 38 [I a0.epoch, I 0, I 4611686018427387904] [.pv (B x6)] ∧
 Φ [.pv (B x6)])
 (Φ [.pv (B false)]))
 (Φ [.pv (B false)]))
 (Fk (a0.kind == 3)
 (∃ x7, Cl 50 [.ip [.fn (.func 43) [] [.ip [I a0.kind, I a0.seq, I a0.epoch, I a0.index, I a0.total, I a0.count, .sl false (List.map I a0.l), .sl false (List.map U8 a0.body)] 0]] 0, .ip [.fn (.func 47) [] [.ip [I a0.kind, I a0.seq, I a0.epoch, I a0.index, I a0.total, I a0.count, .sl false (List.map I a0.l), .sl false (List.map U8 a0.body)] 0]] 0] [.pv (B x7)] ∧
 Fk x7
 (∃ x8, Cl 38 [I a0.seq, I 1, I 4611686018427387904] [.pv (B x8)] ∧
 Fk x8
 (∃ x9, Cl 38 [I a0.epoch, I 0, I 4611686018427387904] [.pv (B x9)] ∧
 Φ [.pv (B x9)])
 (Φ [.pv (B false)]))
 (Φ [.pv (B false)]))
 (Fk (a0.kind == 4)
 (∃ x10, Cl 51 [.ip [.fn (.func 43) [] [.ip [I a0.kind, I a0.seq, I a0.epoch, I a0.index, I a0.total, I a0.count, .sl false (List.map I a0.l), .sl false (List.map U8 a0.body)] 0]] 0, .ip [.fn (.func 44) [] [.ip [I a0.kind, I a0.seq, I a0.epoch, I a0.index, I a0.total, I a0.count, .sl false (List.map I a0.l), .sl false (List.map U8 a0.body)] 0]] 0, .ip [.fn (.func 47) [] [.ip [I a0.kind, I a0.seq, I a0.epoch, I a0.index, I a0.total, I a0.count, .sl false (List.map I a0.l), .sl false (List.map U8 a0.body)] 0]] 0] [.pv (B x10)] ∧
 Fk x10
 (∃ x11, Cl 38 [I a0.seq, I 1, I 4611686018427387904] [.pv (B x11)] ∧
 Fk x11
 (∃ x12, Cl 38 [I a0.epoch, I 0, I 4611686018427387904] [.pv (B x12)] ∧
 Φ [.pv (B x12)])
 (Φ [.pv (B false)]))
 (Φ [.pv (B false)]))
 (Fk (a0.kind == 5)
 (∃ x13, Cl 52 [.ip [.fn (.func 43) [] [.ip [I a0.kind, I a0.seq, I a0.epoch, I a0.index, I a0.total, I a0.count, .sl false (List.map I a0.l), .sl false (List.map U8 a0.body)] 0]] 0, .ip [.fn (.func 47) [] [.ip [I a0.kind, I a0.seq, I a0.epoch, I a0.index, I a0.total, I a0.count, .sl false (List.map I a0.l), .sl false (List.map U8 a0.body)] 0]] 0, .ip [I a0.kind, I a0.seq, I a0.epoch, I a0.index, I a0.total, I a0.count, .sl false (List.map I a0.l), .sl false (List.map U8 a0.body)] 0] [.pv (B x13)] ∧
 Fk x13
 (∃ x14, Cl 38 [I a0.seq, I 1, I 4611686018427387904] [.pv (B x14)] ∧
 Fk x14
 (∃ x15, Cl 38 [I a0.epoch, I 0, I 4611686018427387904] [.pv (B x15)] ∧
 Φ [.pv (B x15)])
 (Φ [.pv (B false)]))
 (Φ [.pv (B false)]))
 (Fk (a0.kind == 6)
 (∃ x16, Cl 53 [.ip [.fn (.func 43) [] [.ip [I a0.kind, I a0.seq, I a0.epoch, I a0.index, I a0.total, I a0.count, .sl false (List.map I a0.l), .sl false (List.map U8 a0.body)] 0]] 0, .ip [.fn (.func 45) [] [.ip [I a0.kind, I a0.seq, I a0.epoch, I a0.index, I a0.total, I a0.count, .sl false (List.map I a0.l), .sl false (List.map U8 a0.body)] 0]] 0] [.pv (B x16)] ∧
 Fk x16
 (∃ x17, Cl 38 [I a0.seq, I 1, I 4611686018427387904] [.pv (B x17)] ∧
 Fk x17
 (∃ x18, Cl 38 [I a0.epoch, I 0, I 4611686018427387904] [.pv (B x18)] ∧
 Φ [.pv (B x18)])
 (Φ [.pv (B false)]))
 (Φ [.pv (B false)]))
 (Φ [.pv (B false)]))))))
theorem t28 (a0 : Item) {Φ : List RV → Prop} (h : P28 a0 Φ) : CtP Try.prog 28 [eItem a0] Φ :=
  ctP_by h 1000 [(1001, .call [.pv (.cst (.map [(.int .i64 1, .fn (.func 48) [] [.ip [I a0.kind, I a0.seq, I a0.epoch, I a0.index, I a0.total, I a0.count, .sl false (List.map I a0.l), .sl false (List.map U8 a0.body)] 0]), (.int .i64 2, .fn (.func 49) [] [.ip [.fn (.func 43) [] [.ip [I a0.kind, I a0.seq, I a0.epoch, I a0.index, I a0.total, I a0.count, .sl false (List.map I a0.l), .sl false (List.map U8 a0.body)] 0]] 0, .ip [.fn (.func 44) [] [.ip [I a0.kind, I a0.seq, I a0.epoch, I a0.index, I a0.total, I a0.count, .sl false (List.map I a0.l), .sl false (List.map U8 a0.body)] 0]] 0, .ip [.fn (.func 45) [] [.ip [I a0.kind, I a0.seq, I a0.epoch, I a0.index, I a0.total, I a0.count, .sl false (List.map I a0.l), .sl false (List.map U8 a0.body)] 0]] 0]), (.int .i64 3, .fn (.func 50) [] [.ip [.fn (.func 43) [] [.ip [I a0.kind, I a0.seq, I a0.epoch, I a0.index, I a0.total, I a0.count, .sl false (List.map I a0.l), .sl false (List.map U8 a0.body)] 0]] 0, .ip [.fn (.func 47) [] [.ip [I a0.kind, I a0.seq, I a0.epoch, I a0.index, I a0.total, I a0.count, .sl false (List.map I a0.l), .sl false (List.map U8 a0.body)] 0]] 0]), (.int .i64 4, .fn (.func 51) [] [.ip [.fn (.func 43) [] [.ip [I a0.kind, I a0.seq, I a0.epoch, I a0.index, I a0.total, I a0.count, .sl false (List.map I a0.l), .sl false (List.map U8 a0.body)] 0]] 0, .ip [.fn (.func 44) [] [.ip [I a0.kind, I a0.seq, I a0.epoch, I a0.index, I a0.total, I a0.count, .sl false (List.map I a0.l), .sl false (List.map U8 a0.body)] 0]] 0, .ip [.fn (.func 47) [] [.ip [I a0.kind, I a0.seq, I a0.epoch, I a0.index, I a0.total, I a0.count, .sl false (List.map I a0.l), .sl false (List.map U8 a0.body)] 0]] 0]), (.int .i64 5, .fn (.func 52) [] [.ip [.fn (.func 43) [] [.ip [I a0.kind, I a0.seq, I a0.epoch, I a0.index, I a0.total, I a0.count, .sl false (List.map I a0.l), .sl false (List.map U8 a0.body)] 0]] 0, .ip [.fn (.func 47) [] [.ip [I a0.kind, I a0.seq, I a0.epoch, I a0.index, I a0.total, I a0.count, .sl false (List.map I a0.l), .sl false (List.map U8 a0.body)] 0]] 0, .ip [I a0.kind, I a0.seq, I a0.epoch, I a0.index, I a0.total, I a0.count, .sl false (List.map I a0.l), .sl false (List.map U8 a0.body)] 0]), (.int .i64 6, .fn (.func 53) [] [.ip [.fn (.func 43) [] [.ip [I a0.kind, I a0.seq, I a0.epoch, I a0.index, I a0.total, I a0.count, .sl false (List.map I a0.l), .sl false (List.map U8 a0.body)] 0]] 0, .ip [.fn (.func 45) [] [.ip [I a0.kind, I a0.seq, I a0.epoch, I a0.index, I a0.total, I a0.count, .sl false (List.map I a0.l), .sl false (List.map U8 a0.body)] 0]] 0])]))]), (1004, .look [[], [], [], [], [], [], [(2005, .off), (2010, .off)]]), (2003, .call [.pv .bool]), (2005, .fork [] [(2010, .off)]), (2008, .call [.pv .bool]), (2010, .fork [] []), (2013, .call [.pv .bool])] mixed Try.func28 rfl (by kernel_rfl) (by kernel_rfl)

/-- keep.Room -/
def P22 (a0 : Keep) (a1 : Int) (a2 : Int) (Φ : List RV → Prop) : Prop :=
 Fk (decide (a1 < 0))
 (Φ [.pv (I 0)])
 (Fk (decide (64 < a1))
 (Φ [.pv (I 0)])
 (Fk (decide (a2 < 0))
 (Φ [.pv (I 0)])
 (Fk (decide (a1 < a2))
 (Φ [.pv (I 0)])
 (Fk (decide (4611686018427387904 < a0.next))
 (Φ [.pv (I 0)])
 (Ln (List.map eItem a0.l) (Φ [.pv (I (imax 0 (w64 ((w64 (a1 - a2)) - ((List.map eItem a0.l).length : Int)))))]))))))
theorem t22 (a0 : Keep) (a1 : Int) (a2 : Int) {Φ : List RV → Prop} (h : P22 a0 a1 a2 Φ) : CtP Try.prog 22 [eKeep a0, I a1, I a2] Φ :=
  ctP_by h 1000 [(1002, .fork [(1010, .off), (1015, .off), (1019, .off), (1006, .off)] []), (1006, .fork [(1015, .off), (1019, .off), (1010, .off)] []), (1010, .fork [(1019, .off), (1015, .off)] []), (1015, .fork [(1019, .off)] []), (1019, .fork [] []), (3997, .lens [3])] mixed Try.func22 rfl (by kernel_rfl) (by kernel_rfl)

/-- keep.Push -/
def P18 (a0 : Keep) (a1 : Item) (a2 : Int) (a3 : Int) (Φ : List RV → Prop) : Prop :=
 Jn (fun v1 : Unit × (Int × Unit) × Unit × Unit × Unit =>
 ∃ x3, Cl 28 [.agg [I a1.kind, I v1.2.1.1, I a1.epoch, I a1.index, I a1.total, I a1.count, .sl false (List.map I a1.l), .sl false (List.map U8 a1.body)]] [.pv (B x3)] ∧
 Fk (!x3)
 (Φ [.pv (eKeep a0), .pv (.agg [I 0, I 0, I 0, I 0, I 0, I 0, .sl true [], .sl true []]), .pv (I 1)])
 (∃ x4, Cl 22 [eKeep a0, I a2, I a3] [.pv (I x4)] ∧
 Fk (x4 == 0)
 (Φ [.pv (eKeep a0), .pv (.agg [I 0, I 0, I 0, I 0, I 0, I 0, .sl true [], .sl true []]), .pv (I 4)])
 (Ln (List.map eItem a0.l) (St3 (List.map eItem a0.l) ((List.map eItem a0.l).length : Int) ((List.map eItem a0.l).length : Int) (
 Ok (okOld 8 (List.take (((List.map eItem a0.l).length : Int).toNat) (List.map eItem a0.l)) [.agg [I a1.kind, I v1.2.1.1, I a1.epoch, I a1.index, I a1.total, I a1.count, .sl false (List.map I a1.l), .sl false (List.map U8 a1.body)]]) (Sz ((List.take (((List.map eItem a0.l).length : Int).toNat) (List.map eItem a0.l)).length) 1 96 (
 Φ [.pv (.agg [I (w64 (a0.next + 1)), .sl false ((List.take (((List.map eItem a0.l).length : Int).toNat) (List.map eItem a0.l)) ++ [.agg [I a1.kind, I v1.2.1.1, I a1.epoch, I a1.index, I a1.total, I a1.count, .sl false (List.map I a1.l), .sl false (List.map U8 a1.body)]])]), .pv (.agg [I a1.kind, I v1.2.1.1, I a1.epoch, I a1.index, I a1.total, I a1.count, .sl false (List.map I a1.l), .sl false (List.map U8 a1.body)]), .pv (I 0)]))))))) (fun j2 =>
 (fun j2 : Unit × (Int × Unit) × Unit × Unit × Unit → Prop =>
 Fk (decide (4611686018427387904 < a0.next))
 (j2 ((), (1, ()), (), (), ()))
 (j2 ((), (a0.next, ()), (), (), ()))) (fun v => SmA (.pv (I a2)) ∧ SmA (.pv (I a3)) ∧ SmA (.bp 65568 0) ∧ SmA (.bp 65576 0) ∧ SmA (.bp 65600 0) ∧ SmA (.bp 65608 0) ∧ SmA (.pv (I a0.next)) ∧ SmA (.pv (.sl false (List.map eItem a0.l))) ∧ SmA (.pv (I a1.kind)) ∧ SmA (.pv (I a1.epoch)) ∧ SmA (.pv (I a1.index)) ∧ SmA (.pv (I a1.total)) ∧ SmA (.pv (I a1.count)) ∧ SmA (.pv (.sl false (List.map I a1.l))) ∧ SmA (.pv (.sl false (List.map U8 a1.body))) ∧ SmA (.pv (I 0)) ∧ SmA (.pv (.sl true [])) ∧ SmA (.pv (I 0)) ∧ SmA (.pv (I 0)) ∧ SmA (.pv (I 0)) ∧ SmA (.pv (I 0)) ∧ SmA (.pv (I 0)) ∧ SmA (.pv (I 0)) ∧ SmA (.pv (.sl true [])) ∧ SmA (.pv (.sl true [])) ∧ j2 v))
theorem t18 (a0 : Keep) (a1 : Item) (a2 : Int) (a3 : Int) {Φ : List RV → Prop} (h : P18 a0 a1 a2 a3 Φ) : CtP Try.prog 18 [eKeep a0, eItem a1, I a2, I a3] Φ :=
  ctP_by h 1000 [(2002, .fork [] []), (4001, .call [.pv .bool]), (4002, .fork [] []), (4998, .join [.k 2 (.pv (I a2)), .k 3 (.pv (I a3)), .k 4 (.bp 65568 0), .k 5 (.bp 65576 0), .k 8 (.bp 65600 0), .k 9 (.bp 65608 0), .box 65568 true [.k (.pv (I a0.next)), .k (.pv (.sl false (List.map eItem a0.l)))], .box 65576 true [.k (.pv (I a1.kind)), .h (.int .i64), .k (.pv (I a1.epoch)), .k (.pv (I a1.index)), .k (.pv (I a1.total)), .k (.pv (I a1.count)), .k (.pv (.sl false (List.map I a1.l))), .k (.pv (.sl false (List.map U8 a1.body)))], .box 65600 true [.k (.pv (I 0)), .k (.pv (.sl true []))], .box 65608 true [.k (.pv (I 0)), .k (.pv (I 0)), .k (.pv (I 0)), .k (.pv (I 0)), .k (.pv (I 0)), .k (.pv (I 0)), .k (.pv (.sl true [])), .k (.pv (.sl true []))]]), (6003, .call [.pv (.int .i64)]), (6004, .fork [] []), (8997, .lens [4]), (9004, .slc), (9007, .app false true)] mixed Try.func18 rfl (by kernel_rfl) (by kernel_rfl)

/-- keep.Free$1 -/
def P35a (b0 : Int) (b1 : Int) (Φ : List RV → Prop) : Prop :=
 Φ [.pv (B (decide (b1 < b0)))]
theorem t35a (b0 : Int) (b1 : Int) {Φ : List RV → Prop} (h : P35a b0 b1 Φ) : CtP Try.prog 35 [I b0, .ip [I b1] 0] Φ :=
  ctP_by h 1000 [] mixed Try.func35 rfl (by kernel_rfl) (by kernel_rfl)

/-- keep.place$1 -/
def P42a (b0 : Item) (b1 : Int) (Φ : List RV → Prop) : Prop :=
 ∃ x1, Cl 35 [I b0.seq, .ip [I b1] 0] [.pv (B x1)] ∧
 Φ [.pv (B x1)]
theorem t42a (b0 : Item) (b1 : Int) {Φ : List RV → Prop} (h : P42a b0 b1 Φ) : CtP Try.prog 42 [eItem b0, .ip [.fn (.func 35) [] [.ip [I b1] 0]] 0] Φ :=
  ctP_by h 1000 [(1003, .call [.pv .bool])] mixed Try.func42 rfl (by kernel_rfl) (by kernel_rfl)

/-- slices.IndexFunc[[]api.Item,api.Item] -/
def P41a (b0 : List PV) (b1 : Int) (Φ : List RV → Prop) : Prop :=
 Ln b0 (SmA (.pv (.sl false b0)) ∧ SmA (.pv (.fn (.func 42) [] [.ip [.fn (.func 35) [] [.ip [I b1] 0]] 0])) ∧ SmA (.pv (I (b0.length : Int))) ∧ Lo (fun (L2 : Int × Unit → Prop) (v1 : Int × Unit) =>
 Fk (decide (v1.1 < (b0.length : Int)))
 (Ix eItem b0 v1.1 fun x3 =>
 ∃ x4, Cl 42 [eItem x3, .ip [.fn (.func 35) [] [.ip [I b1] 0]] 0] [.pv (B x4)] ∧
 Fk x4
 (Φ [.pv (I v1.1)])
 (SmA (.pv (.sl false b0)) ∧ SmA (.pv (.fn (.func 42) [] [.ip [.fn (.func 35) [] [.ip [I b1] 0]] 0])) ∧ SmA (.pv (I (b0.length : Int))) ∧ L2 (w64 (v1.1 + 1), ())))
 (Φ [.pv (I (-1))])) (0, ()))
theorem t41a (b0 : List PV) (b1 : Int) {Φ : List RV → Prop} (h : P41a b0 b1 Φ) : CtP Try.prog 41 [.sl false b0, .fn (.func 42) [] [.ip [.fn (.func 35) [] [.ip [I b1] 0]] 0]] Φ :=
  ctP_by h 1000 [(1997, .lens [0]), (2000, .fork [] []), (2999, .loop [.k 0 (.pv (.sl false b0)), .k 1 (.pv (.fn (.func 42) [] [.ip [.fn (.func 35) [] [.ip [I b1] 0]] 0])), .k 7 (.pv (I (b0.length : Int))), .c 8 (.int .i64)]), (4003, .ix Item eItem), (4005, .callf [.pv .bool] [] [])] mixed Try.func41 rfl (by kernel_rfl) (by kernel_rfl)

/-- keep.place -/
def P32a (b0 : Keep) (b1 : Int) (Φ : List RV → Prop) : Prop :=
 ∃ x1, Cl 41 [.sl false (List.map eItem b0.l), .fn (.func 42) [] [.ip [.fn (.func 35) [] [.ip [I b1] 0]] 0]] [.pv (I x1)] ∧
 Φ [.pv (I x1)]
theorem t32a (b0 : Keep) (b1 : Int) {Φ : List RV → Prop} (h : P32a b0 b1 Φ) : CtP Try.prog 32 [eKeep b0, .fn (.func 35) [] [.ip [I b1] 0]] Φ :=
  ctP_by h 1000 [(1003, .call [.pv (.int .i64)])] mixed Try.func32 rfl (by kernel_rfl) (by kernel_rfl)

/-- keep.Free -/
def P25 (a0 : Keep) (a1 : Int) (Φ : List RV → Prop) : Prop :=
 ∃ x1, Cl 32 [eKeep a0, .fn (.func 35) [] [.ip [I a1] 0]] [.pv (I x1)] ∧
 Jn (fun v2 : Int × Unit × Unit × Unit =>
 Ln (List.map eItem a0.l) (Sb3 8 (List.map eItem a0.l) v2.1 ((List.map eItem a0.l).length : Int) ((List.map eItem a0.l).length : Int) (
 Φ [.pv (.agg [I a0.next, .sl true (List.take (((List.map eItem a0.l).length : Int).toNat - v2.1.toNat) (List.drop v2.1.toNat (List.map eItem a0.l)))])]))) (fun j3 =>
 (fun j3 : Int × Unit × Unit × Unit → Prop =>
 Fk (decide (x1 < 0))
 (Ln (List.map eItem a0.l) (j3 (((List.map eItem a0.l).length : Int), (), (), ())))
 (j3 (x1, (), (), ()))) (fun v => SmA (.bp 65552 0) ∧ SmA (.bp 65568 0) ∧ SmA (.pv (I a0.next)) ∧ SmA (.pv (.sl false (List.map eItem a0.l))) ∧ SmA (.pv (I 0)) ∧ SmA (.pv (.sl true [])) ∧ j3 v))
theorem t25 (a0 : Keep) (a1 : Int) {Φ : List RV → Prop} (h : P25 a0 a1 Φ) : CtP Try.prog 25 [eKeep a0, I a1] Φ :=
  ctP_by h 1000 [(1002, .call [.pv (.int .i64)]), (2001, .fork [] []), (3997, .lens [2]), (4997, .lens [2]), (4998, .join [.k 2 (.bp 65552 0), .k 4 (.bp 65568 0), .c 5 (.int .i64), .box 65552 true [.k (.pv (I a0.next)), .k (.pv (.sl false (List.map eItem a0.l)))], .box 65568 true [.k (.pv (I 0)), .k (.pv (.sl true []))]]), (5005, .slc)] mixed Try.func25 rfl (by kernel_rfl) (by kernel_rfl)

/-- keep.Get$1 -/
def P33a (b0 : Int) (b1 : Int) (Φ : List RV → Prop) : Prop :=
 Φ [.pv (B (b0 == b1))]
theorem t33a (b0 : Int) (b1 : Int) {Φ : List RV → Prop} (h : P33a b0 b1 Φ) : CtP Try.prog 33 [I b0, .ip [I b1] 0] Φ :=
  ctP_by h 1000 [] mixed Try.func33 rfl (by kernel_rfl) (by kernel_rfl)

/-- keep.place$1 -/
def P42b (b0 : Item) (b1 : Int) (Φ : List RV → Prop) : Prop :=
 ∃ x1, Cl 33 [I b0.seq, .ip [I b1] 0] [.pv (B x1)] ∧
 Φ [.pv (B x1)]
theorem t42b (b0 : Item) (b1 : Int) {Φ : List RV → Prop} (h : P42b b0 b1 Φ) : CtP Try.prog 42 [eItem b0, .ip [.fn (.func 33) [] [.ip [I b1] 0]] 0] Φ :=
  ctP_by h 1000 [(1003, .call [.pv .bool])] mixed Try.func42 rfl (by kernel_rfl) (by kernel_rfl)

/-- slices.IndexFunc[[]api.Item,api.Item] -/
def P41b (b0 : List PV) (b1 : Int) (Φ : List RV → Prop) : Prop :=
 Ln b0 (SmA (.pv (.sl false b0)) ∧ SmA (.pv (.fn (.func 42) [] [.ip [.fn (.func 33) [] [.ip [I b1] 0]] 0])) ∧ SmA (.pv (I (b0.length : Int))) ∧ Lo (fun (L2 : Int × Unit → Prop) (v1 : Int × Unit) =>
 Fk (decide (v1.1 < (b0.length : Int)))
 (Ix eItem b0 v1.1 fun x3 =>
 ∃ x4, Cl 42 [eItem x3, .ip [.fn (.func 33) [] [.ip [I b1] 0]] 0] [.pv (B x4)] ∧
 Fk x4
 (Φ [.pv (I v1.1)])
 (SmA (.pv (.sl false b0)) ∧ SmA (.pv (.fn (.func 42) [] [.ip [.fn (.func 33) [] [.ip [I b1] 0]] 0])) ∧ SmA (.pv (I (b0.length : Int))) ∧ L2 (w64 (v1.1 + 1), ())))
 (Φ [.pv (I (-1))])) (0, ()))
theorem t41b (b0 : List PV) (b1 : Int) {Φ : List RV → Prop} (h : P41b b0 b1 Φ) : CtP Try.prog 41 [.sl false b0, .fn (.func 42) [] [.ip [.fn (.func 33) [] [.ip [I b1] 0]] 0]] Φ :=
  ctP_by h 1000 [(1997, .lens [0]), (2000, .fork [] []), (2999, .loop [.k 0 (.pv (.sl false b0)), .k 1 (.pv (.fn (.func 42) [] [.ip [.fn (.func 33) [] [.ip [I b1] 0]] 0])), .k 7 (.pv (I (b0.length : Int))), .c 8 (.int .i64)]), (4003, .ix Item eItem), (4005, .callf [.pv .bool] [] [])] mixed Try.func41 rfl (by kernel_rfl) (by kernel_rfl)

/-- keep.place -/
def P32b (b0 : Keep) (b1 : Int) (Φ : List RV → Prop) : Prop :=
 ∃ x1, Cl 41 [.sl false (List.map eItem b0.l), .fn (.func 42) [] [.ip [.fn (.func 33) [] [.ip [I b1] 0]] 0]] [.pv (I x1)] ∧
 Φ [.pv (I x1)]
theorem t32b (b0 : Keep) (b1 : Int) {Φ : List RV → Prop} (h : P32b b0 b1 Φ) : CtP Try.prog 32 [eKeep b0, .fn (.func 33) [] [.ip [I b1] 0]] Φ :=
  ctP_by h 1000 [(1003, .call [.pv (.int .i64)])] mixed Try.func32 rfl (by kernel_rfl) (by kernel_rfl)

/-- keep.Get -/
def P20 (a0 : Keep) (a1 : Int) (Φ : List RV → Prop) : Prop :=
 ∃ x1, Cl 32 [eKeep a0, .fn (.func 33) [] [.ip [I a1] 0]] [.pv (I x1)] ∧
 Fk (decide (x1 < 0))
 (Φ [.pv (.agg [I 0, I 0, I 0, I 0, I 0, I 0, .sl true [], .sl true []]), .pv (B false)])
 (Ix eItem (List.map eItem a0.l) x1 fun x2 =>
 Φ [.pv (eItem x2), .pv (B true)])
theorem t20 (a0 : Keep) (a1 : Int) {Φ : List RV → Prop} (h : P20 a0 a1 Φ) : CtP Try.prog 20 [eKeep a0, I a1] Φ :=
  ctP_by h 1000 [(1002, .call [.pv (.int .i64)]), (2001, .fork [] []), (4003, .ix Item eItem)] mixed Try.func20 rfl (by kernel_rfl) (by kernel_rfl)

/-- keep.Right -/
def P13 (a0 : Keep) (Φ : List RV → Prop) : Prop :=
 Ln (List.map eItem a0.l) (SmA (.bp 65544 0) ∧ SmA (.pv (.sl false (List.map eItem a0.l))) ∧ SmA (.pv (I ((List.map eItem a0.l).length : Int))) ∧ SmA (.pv (I a0.next)) ∧ SmA (.pv (.sl false (List.map eItem a0.l))) ∧ Lo (fun (L2 : Int × Unit × Unit → Prop) (v1 : Int × Unit × Unit) =>
 Fk (decide (v1.1 < ((List.map eItem a0.l).length : Int)))
 (Ix eItem (List.map eItem a0.l) v1.1 fun x3 =>
 ∃ x4, Cl 28 [eItem x3] [.pv (B x4)] ∧
 Fk (!x4)
 (Φ [.pv (B false)])
 (Fk (x3.seq != (w64 ((w64 (a0.next - ((List.map eItem a0.l).length : Int))) + v1.1)))
 (Φ [.pv (B false)])
 (SmA (.bp 65544 0) ∧ SmA (.pv (.sl false (List.map eItem a0.l))) ∧ SmA (.pv (I ((List.map eItem a0.l).length : Int))) ∧ SmA (.pv (I a0.next)) ∧ SmA (.pv (.sl false (List.map eItem a0.l))) ∧ L2 (w64 (v1.1 + 1), (), ()))))
 (Fk (decide (((List.map eItem a0.l).length : Int) ≤ 64))
 (Fk (decide (1 ≤ a0.next))
 (Φ [.pv (B (decide (a0.next ≤ 4611686018427387905)))])
 (Φ [.pv (B false)]))
 (Φ [.pv (B false)]))) (0, (), ()))
theorem t13 (a0 : Keep) {Φ : List RV → Prop} (h : P13 a0 Φ) : CtP Try.prog 13 [eKeep a0] Φ :=
  ctP_by h 1000 [(1997, .lens [1]), (2000, .fork [] []), (2999, .loop [.k 1 (.bp 65544 0), .k 6 (.pv (.sl false (List.map eItem a0.l))), .k 7 (.pv (I ((List.map eItem a0.l).length : Int))), .c 8 (.int .i64), .box 65544 true [.k (.pv (I a0.next)), .k (.pv (.sl false (List.map eItem a0.l)))]]), (3001, .ix Item eItem), (4001, .call [.pv .bool]), (4003, .fork [(4015, .off)] []), (4015, .fork [] []), (7004, .fork [] [(7009, .off)]), (7009, .fork [] [])] mixed Try.func13 rfl (by kernel_rfl) (by kernel_rfl)

/-- slices.Equal[[]int,int] -/
def P39 (a0 : List PV) (a1 : List PV) (Φ : List RV → Prop) : Prop :=
 Ln a0 (Ln a1 (Fk ((a0.length : Int) != (a1.length : Int))
 (Φ [.pv (B false)])
 (SmA (.pv (.sl false a0)) ∧ SmA (.pv (.sl false a1)) ∧ SmA (.pv (I (a0.length : Int))) ∧ Lo (fun (L2 : Int × Unit → Prop) (v1 : Int × Unit) =>
 Fk (decide (v1.1 < (a0.length : Int)))
 (Ix I a0 v1.1 fun x3 =>
 Ix I a1 v1.1 fun x4 =>
 Fk (x3 != x4)
 (Φ [.pv (B false)])
 (SmA (.pv (.sl false a0)) ∧ SmA (.pv (.sl false a1)) ∧ SmA (.pv (I (a0.length : Int))) ∧ L2 (w64 (v1.1 + 1), ())))
 (Φ [.pv (B true)])) (0, ()))))
theorem t39 (a0 : List PV) (a1 : List PV) {Φ : List RV → Prop} (h : P39 a0 a1 Φ) : CtP Try.prog 39 [.sl false a0, .sl false a1] Φ :=
  ctP_by h 1000 [(1004, .fork [] []), (1997, .lens [0, 1]), (4000, .fork [] []), (4999, .loop [.k 0 (.pv (.sl false a0)), .k 1 (.pv (.sl false a1)), .k 12 (.pv (I (a0.length : Int))), .c 13 (.int .i64)]), (6002, .ix Int I), (6006, .ix Int I), (6008, .fork [] [])] mixed Try.func39 rfl (by kernel_rfl) (by kernel_rfl)

/-- bytes.Equal -/
def P40 (a0 : List PV) (a1 : List PV) (Φ : List RV → Prop) : Prop :=
 By a0 (fun x1 =>
 By a1 (fun x2 =>
 Φ [.pv (B ((⟨x1.toArray⟩ : ByteArray).toList == (⟨x2.toArray⟩ : ByteArray).toList))]))
theorem t40 (a0 : List PV) (a1 : List PV) {Φ : List RV → Prop} (h : P40 a0 a1 Φ) : CtP Try.prog 40 [.sl false a0, .sl false a1] Φ :=
  ctP_by h 1000 [(1001, .b2s), (1003, .b2s)] mixed Try.func40 rfl (by kernel_rfl) (by kernel_rfl)

/-- item.Same -/
def P30 (a0 : Item) (a1 : Item) (Φ : List RV → Prop) : Prop :=
 Fk (a0.kind == a1.kind)
 (Fk (a0.seq == a1.seq)
 (Fk (a0.epoch == a1.epoch)
 (Fk (a0.index == a1.index)
 (Fk (a0.total == a1.total)
 (Fk (a0.count == a1.count)
 (∃ x1, Cl 39 [.sl false (List.map I a0.l), .sl false (List.map I a1.l)] [.pv (B x1)] ∧
 Fk x1
 (∃ x2, Cl 40 [.sl false (List.map U8 a0.body), .sl false (List.map U8 a1.body)] [.pv (B x2)] ∧
 Φ [.pv (B x2)])
 (Φ [.pv (B false)]))
 (Φ [.pv (B false)]))
 (Φ [.pv (B false)]))
 (Φ [.pv (B false)]))
 (Φ [.pv (B false)]))
 (Φ [.pv (B false)]))
 (Φ [.pv (B false)])
theorem t30 (a0 : Item) (a1 : Item) {Φ : List RV → Prop} (h : P30 a0 a1 Φ) : CtP Try.prog 30 [eItem a0, eItem a1] Φ :=
  ctP_by h 1000 [(1005, .fork [] [(1012, .off), (1019, .off), (1026, .off), (1033, .off), (2001, .off), (2008, .off)]), (1012, .fork [] [(1019, .off), (1026, .off), (1033, .off), (2001, .off), (2008, .off)]), (1019, .fork [] [(1026, .off), (1033, .off), (2001, .off), (2008, .off)]), (1026, .fork [] [(1033, .off), (2001, .off), (2008, .off)]), (1033, .fork [] [(2001, .off), (2008, .off)]), (2001, .fork [] [(2008, .off)]), (2006, .call [.pv .bool]), (2008, .fork [] []), (2013, .call [.pv .bool])] mixed Try.func30 rfl (by kernel_rfl) (by kernel_rfl)

/-- slices.EqualFunc[[]api.Item,[]api.Item,api.Item,api.Item] -/
def P29a (b0 : List PV) (b1 : List PV) (Φ : List RV → Prop) : Prop :=
 Ln b0 (Ln b1 (Fk ((b0.length : Int) != (b1.length : Int))
 (Φ [.pv (B false)])
 (SmA (.pv (.sl false b1)) ∧ SmA (.pv (.fn (.func 30) [] [])) ∧ SmA (.pv (.sl false b0)) ∧ SmA (.pv (I (b0.length : Int))) ∧ Lo (fun (L2 : Int × Unit → Prop) (v1 : Int × Unit) =>
 Fk (decide (v1.1 < (b0.length : Int)))
 (Ix eItem b0 v1.1 fun x3 =>
 Ix eItem b1 v1.1 fun x4 =>
 ∃ x5, Cl 30 [eItem x3, eItem x4] [.pv (B x5)] ∧
 Fk (!x5)
 (Φ [.pv (B false)])
 (SmA (.pv (.sl false b1)) ∧ SmA (.pv (.fn (.func 30) [] [])) ∧ SmA (.pv (.sl false b0)) ∧ SmA (.pv (I (b0.length : Int))) ∧ L2 (w64 (v1.1 + 1), ())))
 (Φ [.pv (B true)])) (0, ()))))
theorem t29a (b0 : List PV) (b1 : List PV) {Φ : List RV → Prop} (h : P29a b0 b1 Φ) : CtP Try.prog 29 [.sl false b0, .sl false b1, .fn (.func 30) [] []] Φ :=
  ctP_by h 1000 [(1004, .fork [] []), (1997, .lens [0, 1]), (4000, .fork [] []), (4999, .loop [.k 1 (.pv (.sl false b1)), .k 2 (.pv (.fn (.func 30) [] [])), .k 15 (.pv (.sl false b0)), .k 16 (.pv (I (b0.length : Int))), .c 17 (.int .i64)]), (5001, .ix Item eItem), (6002, .ix Item eItem), (7003, .call [.pv .bool]), (7004, .fork [] [])] mixed Try.func29 rfl (by kernel_rfl) (by kernel_rfl)

/-- keep.Same -/
def P14 (a0 : Keep) (a1 : Keep) (Φ : List RV → Prop) : Prop :=
 Fk (a0.next == a1.next)
 (∃ x1, Cl 29 [.sl false (List.map eItem a0.l), .sl false (List.map eItem a1.l), .fn (.func 30) [] []] [.pv (B x1)] ∧
 Φ [.pv (B x1)])
 (Φ [.pv (B false)])
theorem t14 (a0 : Keep) (a1 : Keep) {Φ : List RV → Prop} (h : P14 a0 a1 Φ) : CtP Try.prog 14 [eKeep a0, eKeep a1] Φ :=
  ctP_by h 1000 [(1005, .fork [] []), (1010, .call [.pv .bool])] mixed Try.func14 rfl (by kernel_rfl) (by kernel_rfl)

/-- precentorlaw08.shown -/
def P9  (Φ : List RV → Prop) : Prop :=
 ∃ x1, Cl 16 [] [.pv (eKeep x1)] ∧
 ∃ x2 x3 x4, Cl 18 [eKeep x1, .agg [I 3, I 0, I 0, I 0, I 0, I 0, .sl true [], .sl true []], I 8, I 0] [.pv (eKeep x2), .pv (eItem x3), .pv (I x4)] ∧
 ∃ x5 x6 x7, Cl 18 [eKeep x2, .agg [I 3, I 0, I 0, I 0, I 0, I 0, .sl true [], .sl true []], I 8, I 0] [.pv (eKeep x5), .pv (eItem x6), .pv (I x7)] ∧
 ∃ x8, Cl 25 [eKeep x5, I 1] [.pv (eKeep x8)] ∧
 ∃ x9 x10, Cl 20 [eKeep x8, I 2] [.pv (eItem x9), .pv (B x10)] ∧
 ∃ x11 x12, Cl 20 [eKeep x8, I 1] [.pv (eItem x11), .pv (B x12)] ∧
 ∃ x13 x14 x15, Cl 18 [eKeep x5, .agg [I 3, I 0, I 0, I 0, I 0, I 0, .sl true [], .sl true []], I 8, I 6] [.pv (eKeep x13), .pv (eItem x14), .pv (I x15)] ∧
 ∃ x16 x17 x18, Cl 18 [eKeep x5, .agg [I 0, I 0, I 0, I 0, I 0, I 0, .sl true [], .sl true []], I 8, I 6] [.pv (eKeep x16), .pv (eItem x17), .pv (I x18)] ∧
 Ln (List.map eItem x8.l) (Fk (x4 == 0)
 (Fk (x3.seq == 1)
 (Fk (x7 == 0)
 (Fk (x6.seq == 2)
 (Fk x10
 (Fk (x9.seq == 2)
 (Fk (!x12)
 (Fk (((List.map eItem x8.l).length : Int) == 1)
 (Fk (x15 == 4)
 (Fk (x18 == 1)
 (∃ x19, Cl 22 [eKeep x5, I 8, I 3] [.pv (I x19)] ∧
 Fk (x19 == 3)
 (∃ x20, Cl 13 [eKeep x5] [.pv (B x20)] ∧
 Fk x20
 (∃ x21, Cl 13 [.agg [I 0, .sl true []]] [.pv (B x21)] ∧
 Fk (!x21)
 (∃ x22, Cl 14 [eKeep x5, eKeep x5] [.pv (B x22)] ∧
 Fk x22
 (∃ x23, Cl 14 [eKeep x5, eKeep x8] [.pv (B x23)] ∧
 Φ [.pv (B (!x23))])
 (Φ [.pv (B false)]))
 (Φ [.pv (B false)]))
 (Φ [.pv (B false)]))
 (Φ [.pv (B false)]))
 (Φ [.pv (B false)]))
 (Φ [.pv (B false)]))
 (Φ [.pv (B false)]))
 (Φ [.pv (B false)]))
 (Φ [.pv (B false)]))
 (Φ [.pv (B false)]))
 (Φ [.pv (B false)]))
 (Φ [.pv (B false)]))
 (Φ [.pv (B false)]))
 (Φ [.pv (B false)]))
theorem t9  {Φ : List RV → Prop} (h : P9  Φ) : CtP Try.prog 9 [] Φ :=
  ctP_by h 1000 [(2000, .call [.pv (.ty Keep eKeep)]), (2002, .call [.pv (.ty Keep eKeep), .pv (.ty Item eItem), .pv (.int .i64)]), (3002, .call [.pv (.ty Keep eKeep), .pv (.ty Item eItem), .pv (.int .i64)]), (4001, .call [.pv (.ty Keep eKeep)]), (5001, .call [.pv (.ty Item eItem), .pv .bool]), (6001, .call [.pv (.ty Item eItem), .pv .bool]), (7002, .call [.pv (.ty Keep eKeep), .pv (.ty Item eItem), .pv (.int .i64)]), (8002, .call [.pv (.ty Keep eKeep), .pv (.ty Item eItem), .pv (.int .i64)]), (9002, .fork [] [(9007, .off), (9011, .off), (9016, .off), (9019, .off), (9024, .off), (9028, .off), (9034, .off), (9038, .off), (9042, .off), (9047, .off), (9051, .off), (9056, .off), (9061, .off)]), (9007, .fork [] [(9011, .off), (9016, .off), (9019, .off), (9024, .off), (9028, .off), (9034, .off), (9038, .off), (9042, .off), (9047, .off), (9051, .off), (9056, .off), (9061, .off)]), (9011, .fork [] [(9016, .off), (9019, .off), (9024, .off), (9028, .off), (9034, .off), (9038, .off), (9042, .off), (9047, .off), (9051, .off), (9056, .off), (9061, .off)]), (9016, .fork [] [(9019, .off), (9024, .off), (9028, .off), (9034, .off), (9038, .off), (9042, .off), (9047, .off), (9051, .off), (9056, .off), (9061, .off)]), (9019, .fork [] [(9024, .off), (9028, .off), (9034, .off), (9038, .off), (9042, .off), (9047, .off), (9051, .off), (9056, .off), (9061, .off)]), (9024, .fork [] [(9028, .off), (9034, .off), (9038, .off), (9042, .off), (9047, .off), (9051, .off), (9056, .off), (9061, .off)]), (9028, .fork [] [(9034, .off), (9038, .off), (9042, .off), (9047, .off), (9051, .off), (9056, .off), (9061, .off)]), (9034, .fork [] [(9038, .off), (9042, .off), (9047, .off), (9051, .off), (9056, .off), (9061, .off)]), (9038, .fork [] [(9042, .off), (9047, .off), (9051, .off), (9056, .off), (9061, .off)]), (9042, .fork [] [(9047, .off), (9051, .off), (9056, .off), (9061, .off)]), (9044, .call [.pv (.int .i64)]), (9047, .fork [] [(9051, .off), (9056, .off), (9061, .off)]), (9049, .call [.pv .bool]), (9051, .fork [] [(9056, .off), (9061, .off)]), (9053, .call [.pv .bool]), (9056, .fork [] [(9061, .off)]), (9059, .call [.pv .bool]), (9061, .fork [] []), (9064, .call [.pv .bool]), (9997, .lens [8])] mixed Try.func9 rfl (by kernel_rfl) (by kernel_rfl)

/-- precentorref03.Few -/
def P11 (a0 : Item) (Φ : List RV → Prop) : Prop :=
 Ln (List.map I a0.l) (Ln (List.map U8 a0.body) (Fk (decide (((List.map I a0.l).length : Int) ≤ 80))
 (Φ [.pv (B (decide (((List.map U8 a0.body).length : Int) ≤ 1100)))])
 (Φ [.pv (B false)])))
theorem t11 (a0 : Item) {Φ : List RV → Prop} (h : P11 a0 Φ) : CtP Try.prog 11 [eItem a0] Φ :=
  ctP_by h 1000 [(1004, .fork [] []), (1997, .lens [1])] mixed Try.func11 rfl (by kernel_rfl) (by kernel_rfl)

/-- precentorref08.Few -/
def P10 (a0 : List PV) (Φ : List RV → Prop) : Prop :=
 Ln a0 (Fk (decide (80 < (a0.length : Int)))
 (Φ [.pv (B false)])
 (SmA (.pv (.sl false a0)) ∧ Lo (fun (L2 : Int × Unit → Prop) (v1 : Int × Unit) =>
 Fk (decide (v1.1 < (a0.length : Int)))
 (Ix eItem a0 v1.1 fun x3 =>
 ∃ x4, Cl 11 [eItem x3] [.pv (B x4)] ∧
 Fk (!x4)
 (Φ [.pv (B false)])
 (SmA (.pv (.sl false a0)) ∧ L2 (w64 (v1.1 + 1), ())))
 (Φ [.pv (B true)])) (0, ())))
theorem t10 (a0 : List PV) {Φ : List RV → Prop} (h : P10 a0 Φ) : CtP Try.prog 10 [.sl false a0] Φ :=
  ctP_by h 1000 [(1002, .fork [] []), (1997, .lens [0]), (4003, .fork [] []), (4999, .loop [.k 0 (.pv (.sl false a0)), .c 3 (.int .i64)]), (6002, .ix Item eItem), (6004, .call [.pv .bool]), (7001, .fork [] [])] mixed Try.func10 rfl (by kernel_rfl) (by kernel_rfl)

/-- precentorref03.in -/
def P36 (a0 : List PV) (a1 : Int) (Φ : List RV → Prop) : Prop :=
 SmA (.pv (.sl false a0)) ∧ SmA (.pv (I a1)) ∧ Lo (fun (L2 : Int × Unit → Prop) (v1 : Int × Unit) =>
 Ln a0 (Fk (decide (v1.1 < (a0.length : Int)))
 (Ix I a0 v1.1 fun x3 =>
 Fk (decide (x3 < 0))
 (Φ [.pv (B false)])
 (Ix I a0 v1.1 fun x4 =>
 Fk (decide (a1 < x4))
 (Φ [.pv (B false)])
 (SmA (.pv (.sl false a0)) ∧ SmA (.pv (I a1)) ∧ L2 (w64 (v1.1 + 1), ()))))
 (Φ [.pv (B true)]))) (0, ())
theorem t36 (a0 : List PV) (a1 : Int) {Φ : List RV → Prop} (h : P36 a0 a1 Φ) : CtP Try.prog 36 [.sl false a0, I a1] Φ :=
  ctP_by h 1000 [(2003, .fork [] []), (2997, .lens [0]), (2999, .loop [.k 0 (.pv (.sl false a0)), .k 1 (.pv (I a1)), .c 5 (.int .i64)]), (4002, .ix Int I), (4005, .fork [(4012, .off)] []), (4008, .ix Int I), (4012, .fork [] [])] mixed Try.func36 rfl (by kernel_rfl) (by kernel_rfl)

/-- precentorref03.May -/
def P27 (a0 : Item) (Φ : List RV → Prop) : Prop :=
 Fk (decide (a0.seq < 1))
 (Φ [.pv (B false)])
 (Fk (decide (4611686018427387904 < a0.seq))
 (Φ [.pv (B false)])
 (Fk (decide (a0.epoch < 0))
 (Φ [.pv (B false)])
 (Fk (decide (4611686018427387904 < a0.epoch))
 (Φ [.pv (B false)])
 (Ln (List.map I a0.l) (Ln (List.map U8 a0.body) (Fk (((List.map I a0.l).length : Int) == 0)
 (Fk (a0.kind == 1)
 (Fk (decide (1 ≤ a0.total))
 (Fk (decide (a0.total ≤ 32))
 (Fk (decide (0 ≤ a0.index))
 (Fk (decide (a0.index < a0.total))
 (Fk (a0.count == 0)
 (Fk (((List.map I a0.l).length : Int) == 0)
 (Φ [.pv (B (decide (((List.map U8 a0.body).length : Int) ≤ 1024)))])
 (Φ [.pv (B false)]))
 (Φ [.pv (B false)]))
 (Φ [.pv (B false)]))
 (Φ [.pv (B false)]))
 (Φ [.pv (B false)]))
 (Φ [.pv (B false)]))
 (Fk (a0.kind == 2)
 (∃ x1, Cl 36 [.sl false (List.map I a0.l), I 63] [.pv (B x1)] ∧
 Fk x1
 (Fk (decide (0 ≤ a0.index))
 (Fk (decide (a0.index ≤ 1))
 (Fk (a0.total == 0)
 (Fk (a0.count == 0)
 (Fk (((List.map U8 a0.body).length : Int) == 0)
 (Fk (decide (1 ≤ ((List.map I a0.l).length : Int)))
 (Φ [.pv (B (decide (((List.map I a0.l).length : Int) ≤ 64)))])
 (Φ [.pv (B false)]))
 (Φ [.pv (B false)]))
 (Φ [.pv (B false)]))
 (Φ [.pv (B false)]))
 (Φ [.pv (B false)]))
 (Φ [.pv (B false)]))
 (Φ [.pv (B false)]))
 (Fk (a0.kind == 3)
 (Fk (((List.map U8 a0.body).length : Int) == 0)
 (Fk (a0.index == 0)
 (Fk (a0.total == 0)
 (Φ [.pv (B (a0.count == 0))])
 (Φ [.pv (B false)]))
 (Φ [.pv (B false)]))
 (Φ [.pv (B false)]))
 (Fk (a0.kind == 4)
 (Fk (((List.map U8 a0.body).length : Int) == 0)
 (Fk (decide (0 ≤ a0.index))
 (Fk (decide (a0.index ≤ 1))
 (Fk (a0.total == 0)
 (Φ [.pv (B (a0.count == 0))])
 (Φ [.pv (B false)]))
 (Φ [.pv (B false)]))
 (Φ [.pv (B false)]))
 (Φ [.pv (B false)]))
 (Fk (a0.kind == 5)
 (Fk (((List.map U8 a0.body).length : Int) == 0)
 (Fk (a0.index == 0)
 (Fk (a0.total == 0)
 (Fk (decide (0 ≤ a0.count))
 (Φ [.pv (B (decide (a0.count ≤ 4611686018427387904)))])
 (Φ [.pv (B false)]))
 (Φ [.pv (B false)]))
 (Φ [.pv (B false)]))
 (Φ [.pv (B false)]))
 (Fk (a0.kind == 6)
 (∃ x2, Cl 36 [.sl false (List.map I a0.l), I 4611686018427387904] [.pv (B x2)] ∧
 Fk x2
 (Fk (a0.index == 0)
 (Fk (a0.total == 0)
 (Fk (a0.count == 0)
 (Fk (((List.map U8 a0.body).length : Int) == 0)
 (Fk (decide (2 ≤ ((List.map I a0.l).length : Int)))
 (Φ [.pv (B (decide (((List.map I a0.l).length : Int) ≤ 64)))])
 (Φ [.pv (B false)]))
 (Φ [.pv (B false)]))
 (Φ [.pv (B false)]))
 (Φ [.pv (B false)]))
 (Φ [.pv (B false)]))
 (Φ [.pv (B false)]))
 (Φ [.pv (B false)])))))))
 (Fk (a0.kind == 1)
 (Fk (decide (1 ≤ a0.total))
 (Fk (decide (a0.total ≤ 32))
 (Fk (decide (0 ≤ a0.index))
 (Fk (decide (a0.index < a0.total))
 (Fk (a0.count == 0)
 (Fk (((List.map I a0.l).length : Int) == 0)
 (Φ [.pv (B (decide (((List.map U8 a0.body).length : Int) ≤ 1024)))])
 (Φ [.pv (B false)]))
 (Φ [.pv (B false)]))
 (Φ [.pv (B false)]))
 (Φ [.pv (B false)]))
 (Φ [.pv (B false)]))
 (Φ [.pv (B false)]))
 (Fk (a0.kind == 2)
 (∃ x3, Cl 36 [.sl false (List.map I a0.l), I 63] [.pv (B x3)] ∧
 Fk x3
 (Fk (decide (0 ≤ a0.index))
 (Fk (decide (a0.index ≤ 1))
 (Fk (a0.total == 0)
 (Fk (a0.count == 0)
 (Fk (((List.map U8 a0.body).length : Int) == 0)
 (Fk (decide (1 ≤ ((List.map I a0.l).length : Int)))
 (Φ [.pv (B (decide (((List.map I a0.l).length : Int) ≤ 64)))])
 (Φ [.pv (B false)]))
 (Φ [.pv (B false)]))
 (Φ [.pv (B false)]))
 (Φ [.pv (B false)]))
 (Φ [.pv (B false)]))
 (Φ [.pv (B false)]))
 (Φ [.pv (B false)]))
 (Fk (a0.kind == 3)
 (Φ [.pv (B false)])
 (Fk (a0.kind == 4)
 (Φ [.pv (B false)])
 (Fk (a0.kind == 5)
 (Φ [.pv (B false)])
 (Fk (a0.kind == 6)
 (∃ x4, Cl 36 [.sl false (List.map I a0.l), I 4611686018427387904] [.pv (B x4)] ∧
 Fk x4
 (Fk (a0.index == 0)
 (Fk (a0.total == 0)
 (Fk (a0.count == 0)
 (Fk (((List.map U8 a0.body).length : Int) == 0)
 (Fk (decide (2 ≤ ((List.map I a0.l).length : Int)))
 (Φ [.pv (B (decide (((List.map I a0.l).length : Int) ≤ 64)))])
 (Φ [.pv (B false)]))
 (Φ [.pv (B false)]))
 (Φ [.pv (B false)]))
 (Φ [.pv (B false)]))
 (Φ [.pv (B false)]))
 (Φ [.pv (B false)]))
 (Φ [.pv (B false)])))))))))))))
theorem t27 (a0 : Item) {Φ : List RV → Prop} (h : P27 a0 Φ) : CtP Try.prog 27 [eItem a0] Φ :=
  ctP_by h 1000 [(1003, .fork [(1013, .off), (1017, .off), (1008, .off)] []), (1008, .fork [(1017, .off), (1013, .off)] []), (1013, .fork [(1017, .off)] []), (1017, .fork [] []), (3004, .fork [] [(11001, .off), (11006, .off), (11011, .off), (13001, .off), (13006, .off), (13011, .off), (13016, .off), (15001, .off), (15006, .off), (15011, .off), (15016, .off)]), (3997, .lens [1]), (5001, .fork [] []), (6003, .fork [] [(6008, .off), (6013, .off), (6020, .off), (6025, .off), (6031, .off)]), (6008, .fork [] [(6013, .off), (6020, .off), (6025, .off), (6031, .off)]), (6013, .fork [] [(6020, .off), (6025, .off), (6031, .off)]), (6020, .fork [] [(6025, .off), (6031, .off)]), (6025, .fork [] [(6031, .off)]), (6031, .fork [] []), (7001, .fork [] []), (8002, .call [.pv .bool]), (9001, .fork [] [(9006, .off), (9011, .off), (9016, .off), (9021, .off), (9027, .off), (9033, .off)]), (9006, .fork [] [(9011, .off), (9016, .off), (9021, .off), (9027, .off), (9033, .off)]), (9011, .fork [] [(9016, .off), (9021, .off), (9027, .off), (9033, .off)]), (9016, .fork [] [(9021, .off), (9027, .off), (9033, .off)]), (9021, .fork [] [(9027, .off), (9033, .off)]), (9027, .fork [] [(9033, .off)]), (9033, .fork [] []), (10001, .fork [] []), (11001, .fork [] [(11006, .off), (11011, .off)]), (11006, .fork [] [(11011, .off)]), (11011, .fork [] []), (12001, .fork [] []), (13001, .fork [] [(13006, .off), (13011, .off), (13016, .off)]), (13006, .fork [] [(13011, .off), (13016, .off)]), (13011, .fork [] [(13016, .off)]), (13016, .fork [] []), (14001, .fork [] []), (15001, .fork [] [(15006, .off), (15011, .off), (15016, .off)]), (15006, .fork [] [(15011, .off), (15016, .off)]), (15011, .fork [] [(15016, .off)]), (15016, .fork [] []), (16001, .fork [] []), (17002, .call [.pv .bool]), (18001, .fork [] [(18006, .off), (18011, .off), (18016, .off), (18022, .off), (18028, .off)]), (18006, .fork [] [(18011, .off), (18016, .off), (18022, .off), (18028, .off)]), (18011, .fork [] [(18016, .off), (18022, .off), (18028, .off)]), (18016, .fork [] [(18022, .off), (18028, .off)]), (18022, .fork [] [(18028, .off)]), (18028, .fork [] [])] mixed Try.func27 rfl (by kernel_rfl) (by kernel_rfl)

/-- precentorref08.Right -/
def P12 (a0 : Keep) (Φ : List RV → Prop) : Prop :=
 Ln (List.map eItem a0.l) (Fk (decide (64 < ((List.map eItem a0.l).length : Int)))
 (Φ [.pv (B false)])
 (Fk (decide (a0.next < 1))
 (Φ [.pv (B false)])
 (Fk (decide (4611686018427387905 < a0.next))
 (Φ [.pv (B false)])
 (SmA (.bp 65544 0) ∧ SmA (.pv (I a0.next)) ∧ SmA (.pv (.sl false (List.map eItem a0.l))) ∧ Lo (fun (L2 : Int × Unit × Unit → Prop) (v1 : Int × Unit × Unit) =>
 Fk (decide (v1.1 < ((List.map eItem a0.l).length : Int)))
 (Ix eItem (List.map eItem a0.l) v1.1 fun x3 =>
 ∃ x4, Cl 27 [eItem x3] [.pv (B x4)] ∧
 Fk (!x4)
 (Φ [.pv (B false)])
 (Ix eItem (List.map eItem a0.l) v1.1 fun x5 =>
 Fk (x5.seq != (w64 (a0.next - (w64 (((List.map eItem a0.l).length : Int) - v1.1)))))
 (Φ [.pv (B false)])
 (SmA (.bp 65544 0) ∧ SmA (.pv (I a0.next)) ∧ SmA (.pv (.sl false (List.map eItem a0.l))) ∧ L2 (w64 (v1.1 + 1), (), ()))))
 (Φ [.pv (B true)])) (0, (), ())))))
theorem t12 (a0 : Keep) {Φ : List RV → Prop} (h : P12 a0 Φ) : CtP Try.prog 12 [eKeep a0] Φ :=
  ctP_by h 1000 [(1004, .fork [(1013, .off), (1009, .off)] []), (1009, .fork [(1013, .off)] []), (1013, .fork [] []), (1997, .lens [1]), (4004, .fork [] []), (4999, .loop [.k 1 (.bp 65544 0), .c 3 (.int .i64), .box 65544 true [.k (.pv (I a0.next)), .k (.pv (.sl false (List.map eItem a0.l)))]]), (6003, .ix Item eItem), (6005, .call [.pv .bool]), (7002, .fork [(7018, .off)] []), (7006, .ix Item eItem), (7018, .fork [] [])] mixed Try.func12 rfl (by kernel_rfl) (by kernel_rfl)

/-- precentorref02.Same -/
def P34 (a0 : List PV) (a1 : List PV) (Φ : List RV → Prop) : Prop :=
 Ln a0 (Ln a1 (Fk ((a0.length : Int) != (a1.length : Int))
 (Φ [.pv (B false)])
 (SmA (.pv (.sl false a0)) ∧ SmA (.pv (.sl false a1)) ∧ Lo (fun (L2 : Int × Unit → Prop) (v1 : Int × Unit) =>
 Fk (decide (v1.1 < (a0.length : Int)))
 (Ix I a0 v1.1 fun x3 =>
 Ix I a1 v1.1 fun x4 =>
 Fk (x3 != x4)
 (Φ [.pv (B false)])
 (SmA (.pv (.sl false a0)) ∧ SmA (.pv (.sl false a1)) ∧ L2 (w64 (v1.1 + 1), ())))
 (Φ [.pv (B true)])) (0, ()))))
theorem t34 (a0 : List PV) (a1 : List PV) {Φ : List RV → Prop} (h : P34 a0 a1 Φ) : CtP Try.prog 34 [.sl false a0, .sl false a1] Φ :=
  ctP_by h 1000 [(1004, .fork [] []), (1997, .lens [0, 1]), (4003, .fork [] []), (4999, .loop [.k 0 (.pv (.sl false a0)), .k 1 (.pv (.sl false a1)), .c 5 (.int .i64)]), (6002, .ix Int I), (6006, .ix Int I), (6008, .fork [] [])] mixed Try.func34 rfl (by kernel_rfl) (by kernel_rfl)

/-- precentorref03.Same -/
def P24 (a0 : Item) (a1 : Item) (Φ : List RV → Prop) : Prop :=
 ∃ x1, Cl 34 [.sl false (List.map I a0.l), .sl false (List.map I a1.l)] [.pv (B x1)] ∧
 Fk x1
 (Fk (a0.kind == a1.kind)
 (Fk (a0.seq == a1.seq)
 (Fk (a0.epoch == a1.epoch)
 (Fk (a0.index == a1.index)
 (Fk (a0.total == a1.total)
 (Fk (a0.count == a1.count)
 (By (List.map U8 a0.body) (fun x2 =>
 By (List.map U8 a1.body) (fun x3 =>
 Φ [.pv (B ((⟨x2.toArray⟩ : ByteArray).toList == (⟨x3.toArray⟩ : ByteArray).toList))])))
 (Φ [.pv (B false)]))
 (Φ [.pv (B false)]))
 (Φ [.pv (B false)]))
 (Φ [.pv (B false)]))
 (Φ [.pv (B false)]))
 (Φ [.pv (B false)]))
 (Φ [.pv (B false)])
theorem t24 (a0 : Item) (a1 : Item) {Φ : List RV → Prop} (h : P24 a0 a1 Φ) : CtP Try.prog 24 [eItem a0, eItem a1] Φ :=
  ctP_by h 1000 [(1004, .call [.pv .bool]), (2001, .fork [] [(2008, .off), (2015, .off), (2022, .off), (2029, .off), (2036, .off), (2043, .off)]), (2008, .fork [] [(2015, .off), (2022, .off), (2029, .off), (2036, .off), (2043, .off)]), (2015, .fork [] [(2022, .off), (2029, .off), (2036, .off), (2043, .off)]), (2022, .fork [] [(2029, .off), (2036, .off), (2043, .off)]), (2029, .fork [] [(2036, .off), (2043, .off)]), (2036, .fork [] [(2043, .off)]), (2043, .fork [] []), (2046, .b2s), (2049, .b2s)] mixed Try.func24 rfl (by kernel_rfl) (by kernel_rfl)

/-- precentorref08.Items -/
def P31 (a0 : List PV) (a1 : List PV) (Φ : List RV → Prop) : Prop :=
 Ln a0 (Ln a1 (Fk ((a0.length : Int) != (a1.length : Int))
 (Φ [.pv (B false)])
 (SmA (.pv (.sl false a0)) ∧ SmA (.pv (.sl false a1)) ∧ Lo (fun (L2 : Int × Unit → Prop) (v1 : Int × Unit) =>
 Fk (decide (v1.1 < (a0.length : Int)))
 (Ix eItem a0 v1.1 fun x3 =>
 Ix eItem a1 v1.1 fun x4 =>
 ∃ x5, Cl 24 [eItem x3, eItem x4] [.pv (B x5)] ∧
 Fk (!x5)
 (Φ [.pv (B false)])
 (SmA (.pv (.sl false a0)) ∧ SmA (.pv (.sl false a1)) ∧ L2 (w64 (v1.1 + 1), ())))
 (Φ [.pv (B true)])) (0, ()))))
theorem t31 (a0 : List PV) (a1 : List PV) {Φ : List RV → Prop} (h : P31 a0 a1 Φ) : CtP Try.prog 31 [.sl false a0, .sl false a1] Φ :=
  ctP_by h 1000 [(1004, .fork [] []), (1997, .lens [0, 1]), (4003, .fork [] []), (4999, .loop [.k 0 (.pv (.sl false a0)), .k 1 (.pv (.sl false a1)), .c 5 (.int .i64)]), (6002, .ix Item eItem), (6006, .ix Item eItem), (6008, .call [.pv .bool]), (7001, .fork [] [])] mixed Try.func31 rfl (by kernel_rfl) (by kernel_rfl)

/-- precentorref08.Same -/
def P15 (a0 : Keep) (a1 : Keep) (Φ : List RV → Prop) : Prop :=
 ∃ x1, Cl 31 [.sl false (List.map eItem a0.l), .sl false (List.map eItem a1.l)] [.pv (B x1)] ∧
 Fk x1
 (Φ [.pv (B (a0.next == a1.next))])
 (Φ [.pv (B false)])
theorem t15 (a0 : Keep) (a1 : Keep) {Φ : List RV → Prop} (h : P15 a0 a1 Φ) : CtP Try.prog 15 [eKeep a0, eKeep a1] Φ :=
  ctP_by h 1000 [(1004, .call [.pv .bool]), (2001, .fork [] [])] mixed Try.func15 rfl (by kernel_rfl) (by kernel_rfl)

/-- precentorref08.New -/
def P17  (Φ : List RV → Prop) : Prop :=
 Φ [.pv (.agg [I 1, .sl true []])]
theorem t17  {Φ : List RV → Prop} (h : P17  Φ) : CtP Try.prog 17 [] Φ :=
  ctP_by h 1000 [] mixed Try.func17 rfl (by kernel_rfl) (by kernel_rfl)

/-- precentorref08.Room -/
def P23 (a0 : Keep) (a1 : Int) (a2 : Int) (Φ : List RV → Prop) : Prop :=
 Ln (List.map eItem a0.l) (Fk (decide (a1 < 0))
 (Φ [.pv (I 0)])
 (Fk (decide (64 < a1))
 (Φ [.pv (I 0)])
 (Fk (decide (a2 < 0))
 (Φ [.pv (I 0)])
 (Fk (decide (64 < a2))
 (Φ [.pv (I 0)])
 (Fk (decide (4611686018427387904 < a0.next))
 (Φ [.pv (I 0)])
 (Fk (decide ((w64 (a1 - a2)) < ((List.map eItem a0.l).length : Int)))
 (Φ [.pv (I 0)])
 (Φ [.pv (I (w64 ((w64 (a1 - a2)) - ((List.map eItem a0.l).length : Int))))])))))))
theorem t23 (a0 : Keep) (a1 : Int) (a2 : Int) {Φ : List RV → Prop} (h : P23 a0 a1 a2 Φ) : CtP Try.prog 23 [eKeep a0, I a1, I a2] Φ :=
  ctP_by h 1000 [(1002, .fork [(1010, .off), (1014, .off), (1019, .off), (1027, .off), (1006, .off)] []), (1006, .fork [(1014, .off), (1019, .off), (1027, .off), (1010, .off)] []), (1010, .fork [(1019, .off), (1027, .off), (1014, .off)] []), (1014, .fork [(1027, .off), (1019, .off)] []), (1019, .fork [(1027, .off)] []), (1027, .fork [] []), (1997, .lens [3])] mixed Try.func23 rfl (by kernel_rfl) (by kernel_rfl)

/-- precentorref08.Push -/
def P19 (a0 : Keep) (a1 : Item) (a2 : Int) (a3 : Int) (Φ : List RV → Prop) : Prop :=
 Jn (fun v1 : Unit × (Int × Unit) × Unit × Unit × Unit =>
 ∃ x3, Cl 27 [.agg [I a1.kind, I v1.2.1.1, I a1.epoch, I a1.index, I a1.total, I a1.count, .sl false (List.map I a1.l), .sl false (List.map U8 a1.body)]] [.pv (B x3)] ∧
 Fk (!x3)
 (Φ [.pv (eKeep a0), .pv (.agg [I 0, I 0, I 0, I 0, I 0, I 0, .sl true [], .sl true []]), .pv (I 1)])
 (∃ x4, Cl 23 [eKeep a0, I a2, I a3] [.pv (I x4)] ∧
 Fk (decide (x4 < 1))
 (Φ [.pv (eKeep a0), .pv (.agg [I 0, I 0, I 0, I 0, I 0, I 0, .sl true [], .sl true []]), .pv (I 4)])
 (Ok (okNews 8 (List.map eItem a0.l)) (Sz 0 ((List.map eItem a0.l).length) 96 (
 Sz ((List.map eItem a0.l).length) 1 96 (
 Φ [.pv (.agg [I (w64 (a0.next + 1)), .sl false ((List.map eItem a0.l) ++ [.agg [I a1.kind, I v1.2.1.1, I a1.epoch, I a1.index, I a1.total, I a1.count, .sl false (List.map I a1.l), .sl false (List.map U8 a1.body)]])]), .pv (.agg [I a1.kind, I v1.2.1.1, I a1.epoch, I a1.index, I a1.total, I a1.count, .sl false (List.map I a1.l), .sl false (List.map U8 a1.body)]), .pv (I 0)])))))) (fun j2 =>
 (fun j2 : Unit × (Int × Unit) × Unit × Unit × Unit → Prop =>
 Fk (decide (4611686018427387904 < a0.next))
 (j2 ((), (1, ()), (), (), ()))
 (j2 ((), (a0.next, ()), (), (), ()))) (fun v => SmA (.pv (I a2)) ∧ SmA (.pv (I a3)) ∧ SmA (.bp 65568 0) ∧ SmA (.bp 65576 0) ∧ SmA (.bp 65600 0) ∧ SmA (.bp 65608 0) ∧ SmA (.pv (I a0.next)) ∧ SmA (.pv (.sl false (List.map eItem a0.l))) ∧ SmA (.pv (I a1.kind)) ∧ SmA (.pv (I a1.epoch)) ∧ SmA (.pv (I a1.index)) ∧ SmA (.pv (I a1.total)) ∧ SmA (.pv (I a1.count)) ∧ SmA (.pv (.sl false (List.map I a1.l))) ∧ SmA (.pv (.sl false (List.map U8 a1.body))) ∧ SmA (.pv (I 0)) ∧ SmA (.pv (.sl true [])) ∧ SmA (.pv (I 0)) ∧ SmA (.pv (I 0)) ∧ SmA (.pv (I 0)) ∧ SmA (.pv (I 0)) ∧ SmA (.pv (I 0)) ∧ SmA (.pv (I 0)) ∧ SmA (.pv (.sl true [])) ∧ SmA (.pv (.sl true [])) ∧ j2 v))
theorem t19 (a0 : Keep) (a1 : Item) (a2 : Int) (a3 : Int) {Φ : List RV → Prop} (h : P19 a0 a1 a2 a3 Φ) : CtP Try.prog 19 [eKeep a0, eItem a1, I a2, I a3] Φ :=
  ctP_by h 1000 [(2002, .fork [] []), (4001, .call [.pv .bool]), (4998, .join [.k 2 (.pv (I a2)), .k 3 (.pv (I a3)), .k 4 (.bp 65568 0), .k 5 (.bp 65576 0), .k 8 (.bp 65600 0), .k 9 (.bp 65608 0), .box 65568 true [.k (.pv (I a0.next)), .k (.pv (.sl false (List.map eItem a0.l)))], .box 65576 true [.k (.pv (I a1.kind)), .h (.int .i64), .k (.pv (I a1.epoch)), .k (.pv (I a1.index)), .k (.pv (I a1.total)), .k (.pv (I a1.count)), .k (.pv (.sl false (List.map I a1.l))), .k (.pv (.sl false (List.map U8 a1.body)))], .box 65600 true [.k (.pv (I 0)), .k (.pv (.sl true []))], .box 65608 true [.k (.pv (I 0)), .k (.pv (I 0)), .k (.pv (I 0)), .k (.pv (I 0)), .k (.pv (I 0)), .k (.pv (I 0)), .k (.pv (.sl true [])), .k (.pv (.sl true []))]]), (5001, .fork [] []), (7003, .call [.pv (.int .i64)]), (8001, .fork [] []), (10006, .app true false), (10009, .app false false)] mixed Try.func19 rfl (by kernel_rfl) (by kernel_rfl)

/-- precentorref08.Get -/
def P21 (a0 : Keep) (a1 : Int) (Φ : List RV → Prop) : Prop :=
 SmA (.pv (I a1)) ∧ SmA (.bp 65552 0) ∧ SmA (.bp 65568 0) ∧ SmA (.pv (I a0.next)) ∧ SmA (.pv (.sl false (List.map eItem a0.l))) ∧ SmA (.pv (I 0)) ∧ SmA (.pv (I 0)) ∧ SmA (.pv (I 0)) ∧ SmA (.pv (I 0)) ∧ SmA (.pv (I 0)) ∧ SmA (.pv (I 0)) ∧ SmA (.pv (.sl true [])) ∧ SmA (.pv (.sl true [])) ∧ Lo (fun (L2 : Int × Unit × Unit × Unit → Prop) (v1 : Int × Unit × Unit × Unit) =>
 Ln (List.map eItem a0.l) (Fk (decide (v1.1 < ((List.map eItem a0.l).length : Int)))
 (Ix eItem (List.map eItem a0.l) v1.1 fun x3 =>
 Fk (x3.seq == a1)
 (Ix eItem (List.map eItem a0.l) v1.1 fun x4 =>
 Φ [.pv (eItem x4), .pv (B true)])
 (SmA (.pv (I a1)) ∧ SmA (.bp 65552 0) ∧ SmA (.bp 65568 0) ∧ SmA (.pv (I a0.next)) ∧ SmA (.pv (.sl false (List.map eItem a0.l))) ∧ SmA (.pv (I 0)) ∧ SmA (.pv (I 0)) ∧ SmA (.pv (I 0)) ∧ SmA (.pv (I 0)) ∧ SmA (.pv (I 0)) ∧ SmA (.pv (I 0)) ∧ SmA (.pv (.sl true [])) ∧ SmA (.pv (.sl true [])) ∧ L2 (w64 (v1.1 + 1), (), (), ())))
 (Φ [.pv (.agg [I 0, I 0, I 0, I 0, I 0, I 0, .sl true [], .sl true []]), .pv (B false)]))) (0, (), (), ())
theorem t21 (a0 : Keep) (a1 : Int) {Φ : List RV → Prop} (h : P21 a0 a1 Φ) : CtP Try.prog 21 [eKeep a0, I a1] Φ :=
  ctP_by h 1000 [(2004, .fork [] []), (2997, .lens [2]), (2999, .loop [.k 1 (.pv (I a1)), .k 2 (.bp 65552 0), .k 4 (.bp 65568 0), .c 6 (.int .i64), .box 65552 true [.k (.pv (I a0.next)), .k (.pv (.sl false (List.map eItem a0.l)))], .box 65568 true [.k (.pv (I 0)), .k (.pv (I 0)), .k (.pv (I 0)), .k (.pv (I 0)), .k (.pv (I 0)), .k (.pv (I 0)), .k (.pv (.sl true [])), .k (.pv (.sl true []))]]), (4003, .ix Item eItem), (4007, .fork [] []), (5003, .ix Item eItem)] mixed Try.func21 rfl (by kernel_rfl) (by kernel_rfl)

/-- precentorref08.Free -/
def P26 (a0 : Keep) (a1 : Int) (Φ : List RV → Prop) : Prop :=
 SmA (.pv (I a1)) ∧ SmA (.bp 65552 0) ∧ SmA (.bp 65568 0) ∧ SmA (.pv (I a0.next)) ∧ SmA (.pv (.sl false (List.map eItem a0.l))) ∧ SmA (.pv (I 0)) ∧ SmA (.pv (.sl true [])) ∧ Lo (fun (L2 : List PV × Int × Unit × Unit × Unit → Prop) (v1 : List PV × Int × Unit × Unit × Unit) =>
 Ln (List.map eItem a0.l) (Fk (decide (v1.2.1 < ((List.map eItem a0.l).length : Int)))
 (Jn (fun v3 : List PV × Int × Unit × Unit × Unit =>
 SmA (.pv (I a1)) ∧ SmA (.bp 65552 0) ∧ SmA (.bp 65568 0) ∧ SmA (.pv (I a0.next)) ∧ SmA (.pv (.sl false (List.map eItem a0.l))) ∧ SmA (.pv (I 0)) ∧ SmA (.pv (.sl true [])) ∧ L2 (v3.1, w64 (v3.2.1 + 1), (), (), ())) (fun j4 =>
 (fun j4 : List PV × Int × Unit × Unit × Unit → Prop =>
 Ix eItem (List.map eItem a0.l) v1.2.1 fun x5 =>
 Fk (decide (a1 < x5.seq))
 (Ix eItem (List.map eItem a0.l) v1.2.1 fun x6 =>
 Sz v1.1.length 1 96 (
 j4 (v1.1 ++ [eItem x6], v1.2.1, (), (), ())))
 (j4 (v1.1, v1.2.1, (), (), ()))) (fun v => SmA (.pv (I a1)) ∧ SmA (.bp 65552 0) ∧ SmA (.bp 65568 0) ∧ SmA (.pv (I a0.next)) ∧ SmA (.pv (.sl false (List.map eItem a0.l))) ∧ SmA (.pv (I 0)) ∧ SmA (.pv (.sl true [])) ∧ j4 v)))
 (Φ [.pv (.agg [I a0.next, .sl false v1.1])]))) ([], 0, (), (), ())
theorem t26 (a0 : Keep) (a1 : Int) {Φ : List RV → Prop} (h : P26 a0 a1 Φ) : CtP Try.prog 26 [eKeep a0, I a1] Φ :=
  ctP_by h 1000 [(3004, .fork [] []), (3997, .lens [2]), (3999, .loop [.k 1 (.pv (I a1)), .k 2 (.bp 65552 0), .k 4 (.bp 65568 0), .r 5 28 8, .c 6 (.int .i64), .box 65552 true [.k (.pv (I a0.next)), .k (.pv (.sl false (List.map eItem a0.l)))], .box 65568 true [.k (.pv (I 0)), .k (.pv (.sl true []))]]), (4998, .join [.k 1 (.pv (I a1)), .k 2 (.bp 65552 0), .k 4 (.bp 65568 0), .r 5 28 8, .c 6 (.int .i64), .box 65552 true [.k (.pv (I a0.next)), .k (.pv (.sl false (List.map eItem a0.l)))], .box 65568 true [.k (.pv (I 0)), .k (.pv (.sl true []))]]), (5003, .ix Item eItem), (5007, .fork [] []), (6004, .ix Item eItem), (6007, .app false false)] mixed Try.func26 rfl (by kernel_rfl) (by kernel_rfl)

/-- precentorlaw08.KeepTells -/
def P3 (a0 : KeepTellsIn) (Φ : List RV → Prop) : Prop :=
 ∃ x1, Cl 9 [] [.pv (B x1)] ∧
 ∃ x2, Cl 10 [.sl false (List.map eItem a0.k.l)] [.pv (B x2)] ∧
 Fk (!x2)
 (Φ [.pv (B x1)])
 (∃ x3, Cl 10 [.sl false (List.map eItem a0.o.l)] [.pv (B x3)] ∧
 Fk (!x3)
 (Φ [.pv (B x1)])
 (∃ x4, Cl 11 [eItem a0.it] [.pv (B x4)] ∧
 Fk (!x4)
 (Φ [.pv (B x1)])
 (∃ x5, Cl 12 [eKeep a0.k] [.pv (B x5)] ∧
 ∃ x6, Cl 13 [eKeep a0.k] [.pv (B x6)] ∧
 Fk (x6 != x5)
 (Φ [.pv (B false)])
 (∃ x7, Cl 14 [eKeep a0.k, eKeep a0.o] [.pv (B x7)] ∧
 ∃ x8, Cl 15 [eKeep a0.k, eKeep a0.o] [.pv (B x8)] ∧
 Fk (x7 != x8)
 (Φ [.pv (B false)])
 (∃ x9, Cl 16 [] [.pv (eKeep x9)] ∧
 ∃ x10, Cl 17 [] [.pv (eKeep x10)] ∧
 ∃ x11, Cl 15 [eKeep x9, eKeep x10] [.pv (B x11)] ∧
 Fk (!x11)
 (Φ [.pv (B false)])
 (Fk (!x5)
 (Φ [.pv (B x1)])
 (∃ x12 x13 x14, Cl 18 [eKeep a0.k, eItem a0.it, I a0.buf, I a0.spare] [.pv (eKeep x12), .pv (eItem x13), .pv (I x14)] ∧
 ∃ x15 x16 x17, Cl 19 [eKeep a0.k, eItem a0.it, I a0.buf, I a0.spare] [.pv (eKeep x15), .pv (eItem x16), .pv (I x17)] ∧
 ∃ x18 x19, Cl 20 [eKeep a0.k, I a0.spare] [.pv (eItem x18), .pv (B x19)] ∧
 ∃ x20 x21, Cl 21 [eKeep a0.k, I a0.spare] [.pv (eItem x20), .pv (B x21)] ∧
 Fk x1
 (∃ x22, Cl 22 [eKeep a0.k, I a0.buf, I a0.spare] [.pv (I x22)] ∧
 ∃ x23, Cl 23 [eKeep a0.k, I a0.buf, I a0.spare] [.pv (I x23)] ∧
 Fk (x22 == x23)
 (∃ x24, Cl 15 [eKeep x12, eKeep x15] [.pv (B x24)] ∧
 Fk x24
 (∃ x25, Cl 24 [eItem x13, eItem x16] [.pv (B x25)] ∧
 Fk x25
 (Fk (x14 == x17)
 (∃ x26, Cl 24 [eItem x18, eItem x20] [.pv (B x26)] ∧
 Fk x26
 (Fk (x19 == x21)
 (∃ x27, Cl 25 [eKeep a0.k, I a0.spare] [.pv (eKeep x27)] ∧
 ∃ x28, Cl 26 [eKeep a0.k, I a0.spare] [.pv (eKeep x28)] ∧
 ∃ x29, Cl 15 [eKeep x27, eKeep x28] [.pv (B x29)] ∧
 Φ [.pv (B x29)])
 (Φ [.pv (B false)]))
 (Φ [.pv (B false)]))
 (Φ [.pv (B false)]))
 (Φ [.pv (B false)]))
 (Φ [.pv (B false)]))
 (Φ [.pv (B false)]))
 (Φ [.pv (B false)]))))))))
theorem t3 (a0 : KeepTellsIn) {Φ : List RV → Prop} (h : P3 a0 Φ) : CtP Try.prog 3 [eKeepTellsIn a0] Φ :=
  ctP_by h 1000 [(6000, .call [.pv .bool]), (7002, .call [.pv .bool]), (7004, .fork [(7014, .off), (7010, .off)] []), (7007, .call [.pv .bool]), (7010, .fork [(7014, .off)] []), (7012, .call [.pv .bool]), (7014, .fork [] []), (9001, .call [.pv .bool]), (10001, .call [.pv .bool]), (10004, .fork [(10018, .off), (10013, .off)] []), (10007, .call [.pv .bool]), (10010, .call [.pv .bool]), (10013, .fork [(10018, .off)] []), (10014, .call [.pv (.ty Keep eKeep)]), (10015, .call [.pv (.ty Keep eKeep)]), (10016, .call [.pv .bool]), (10018, .fork [] []), (12001, .fork [] []), (14004, .call [.pv (.ty Keep eKeep), .pv (.ty Item eItem), .pv (.int .i64)]), (15004, .call [.pv (.ty Keep eKeep), .pv (.ty Item eItem), .pv (.int .i64)]), (16002, .call [.pv (.ty Item eItem), .pv .bool]), (17002, .call [.pv (.ty Item eItem), .pv .bool]), (18001, .fork [] [(18012, .off), (18017, .off), (18022, .off), (18027, .off), (18032, .off), (18037, .off)]), (18005, .call [.pv (.int .i64)]), (18009, .call [.pv (.int .i64)]), (18012, .fork [] [(18017, .off), (18022, .off), (18027, .off), (18032, .off), (18037, .off)]), (18015, .call [.pv .bool]), (18017, .fork [] [(18022, .off), (18027, .off), (18032, .off), (18037, .off)]), (18020, .call [.pv .bool]), (18022, .fork [] [(18027, .off), (18032, .off), (18037, .off)]), (18027, .fork [] [(18032, .off), (18037, .off)]), (18030, .call [.pv .bool]), (18032, .fork [] [(18037, .off)]), (18037, .fork [] []), (18040, .call [.pv (.ty Keep eKeep)]), (18043, .call [.pv (.ty Keep eKeep)]), (18044, .call [.pv .bool])] mixed Try.func3 rfl (by kernel_rfl) (by kernel_rfl)

/-- precentorlaw08.KeepStays -/
def P4 (a0 : KeepStaysIn) (Φ : List RV → Prop) : Prop :=
 ∃ x1, Cl 9 [] [.pv (B x1)] ∧
 ∃ x2, Cl 10 [.sl false (List.map eItem a0.k.l)] [.pv (B x2)] ∧
 Fk (!x2)
 (Φ [.pv (B x1)])
 (∃ x3, Cl 11 [eItem a0.it] [.pv (B x3)] ∧
 Fk (!x3)
 (Φ [.pv (B x1)])
 (∃ x4, Cl 12 [eKeep a0.k] [.pv (B x4)] ∧
 Fk (!x4)
 (Φ [.pv (B x1)])
 (∃ x5, Cl 22 [eKeep a0.k, I a0.buf, I a0.spare] [.pv (I x5)] ∧
 ∃ x6 x7 x8, Cl 18 [eKeep a0.k, eItem a0.it, I a0.buf, I a0.spare] [.pv (eKeep x6), .pv (eItem x7), .pv (I x8)] ∧
 ∃ x9, Cl 25 [eKeep a0.k, I a0.upto] [.pv (eKeep x9)] ∧
 Jn (fun v10 : Bool × Int × Int × Unit × (Int × (List PV) × Unit) × (Int × Int × Int × Int × Int × Int × (List PV) × (List PV) × Unit) × (Int × (List PV) × Unit) × Unit =>
 SmA (.bp 131096 0) ∧ SmA (.pv (I a0.upto)) ∧ SmA (.bp 655440 0) ∧ SmA (.bp 655448 0) ∧ SmA (.bp 721000 0) ∧ SmA (.pv (I a0.k.next)) ∧ SmA (.pv (.sl false (List.map eItem a0.k.l))) ∧ Lo (fun (L13 : Bool × Int × Int × Int × Unit × (Int × (List PV) × Unit) × (Int × Int × Int × Int × Int × Int × (List PV) × (List PV) × Unit) × (Int × (List PV) × Unit) × Unit → Prop) (v12 : Bool × Int × Int × Int × Unit × (Int × (List PV) × Unit) × (Int × Int × Int × Int × Int × Int × (List PV) × (List PV) × Unit) × (Int × (List PV) × Unit) × Unit) =>
 Ln (List.map eItem a0.k.l) (Fk (decide (v12.2.2.2.1 < ((List.map eItem a0.k.l).length : Int)))
 (Jn (fun v14 : Bool × Int × Int × Int × Unit × (Int × (List PV) × Unit) × (Int × Int × Int × Int × Int × Int × (List PV) × (List PV) × Unit) × (Int × (List PV) × Unit) × Unit =>
 SmA (.bp 131096 0) ∧ SmA (.pv (I a0.upto)) ∧ SmA (.bp 655440 0) ∧ SmA (.bp 655448 0) ∧ SmA (.bp 721000 0) ∧ SmA (.pv (I a0.k.next)) ∧ SmA (.pv (.sl false (List.map eItem a0.k.l))) ∧ L13 (v14.1, v14.2.1, v14.2.2.1, w64 (v14.2.2.2.1 + 1), (), (v14.2.2.2.2.2.1.1, v14.2.2.2.2.2.1.2.1, ()), (v14.2.2.2.2.2.2.1.1, v14.2.2.2.2.2.2.1.2.1, v14.2.2.2.2.2.2.1.2.2.1, v14.2.2.2.2.2.2.1.2.2.2.1, v14.2.2.2.2.2.2.1.2.2.2.2.1, v14.2.2.2.2.2.2.1.2.2.2.2.2.1, v14.2.2.2.2.2.2.1.2.2.2.2.2.2.1, v14.2.2.2.2.2.2.1.2.2.2.2.2.2.2.1, ()), (v14.2.2.2.2.2.2.2.1.1, v14.2.2.2.2.2.2.2.1.2.1, ()), ())) (fun j15 =>
 (fun j15 : Bool × Int × Int × Int × Unit × (Int × (List PV) × Unit) × (Int × Int × Int × Int × Int × Int × (List PV) × (List PV) × Unit) × (Int × (List PV) × Unit) × Unit → Prop =>
 Ix eItem (List.map eItem a0.k.l) v12.2.2.2.1 fun x16 =>
 ∃ x17 x18, Cl 20 [.agg [I v12.2.2.2.2.2.2.2.1.1, .sl false v12.2.2.2.2.2.2.2.1.2.1], I x16.seq] [.pv (eItem x17), .pv (B x18)] ∧
 Ix eItem (List.map eItem a0.k.l) v12.2.2.2.1 fun x19 =>
 Fk (x18 != (decide (a0.upto < x19.seq)))
 (Φ [.pv (B false)])
 (Fk x18
 (Ix eItem (List.map eItem a0.k.l) v12.2.2.2.1 fun x20 =>
 ∃ x21, Cl 24 [eItem x17, eItem x20] [.pv (B x21)] ∧
 Fk (!x21)
 (Φ [.pv (B false)])
 (j15 (v12.1, v12.2.1, v12.2.2.1, v12.2.2.2.1, (), (v12.2.2.2.2.2.1.1, v12.2.2.2.2.2.1.2.1, ()), (v12.2.2.2.2.2.2.1.1, v12.2.2.2.2.2.2.1.2.1, v12.2.2.2.2.2.2.1.2.2.1, v12.2.2.2.2.2.2.1.2.2.2.1, v12.2.2.2.2.2.2.1.2.2.2.2.1, v12.2.2.2.2.2.2.1.2.2.2.2.2.1, v12.2.2.2.2.2.2.1.2.2.2.2.2.2.1, v12.2.2.2.2.2.2.1.2.2.2.2.2.2.2.1, ()), (v12.2.2.2.2.2.2.2.1.1, v12.2.2.2.2.2.2.2.1.2.1, ()), ())))
 (j15 (v12.1, v12.2.1, v12.2.2.1, v12.2.2.2.1, (), (v12.2.2.2.2.2.1.1, v12.2.2.2.2.2.1.2.1, ()), (v12.2.2.2.2.2.2.1.1, v12.2.2.2.2.2.2.1.2.1, v12.2.2.2.2.2.2.1.2.2.1, v12.2.2.2.2.2.2.1.2.2.2.1, v12.2.2.2.2.2.2.1.2.2.2.2.1, v12.2.2.2.2.2.2.1.2.2.2.2.2.1, v12.2.2.2.2.2.2.1.2.2.2.2.2.2.1, v12.2.2.2.2.2.2.1.2.2.2.2.2.2.2.1, ()), (v12.2.2.2.2.2.2.2.1.1, v12.2.2.2.2.2.2.2.1.2.1, ()), ())))) (fun v => SmA (.bp 131096 0) ∧ SmA (.pv (I a0.upto)) ∧ SmA (.bp 655440 0) ∧ SmA (.bp 655448 0) ∧ SmA (.bp 721000 0) ∧ SmA (.pv (I a0.k.next)) ∧ SmA (.pv (.sl false (List.map eItem a0.k.l))) ∧ j15 v)))
 (Fk (v12.2.2.1 != 0)
 (Fk v12.1
 (Fk (v12.2.2.1 == 1)
 (Φ [.pv (B true)])
 (Fk (v12.2.2.1 == 4)
 (Φ [.pv (B (v12.2.1 == 0))])
 (Φ [.pv (B false)])))
 (Φ [.pv (B false)]))
 (∃ x22 x23, Cl 20 [.agg [I v12.2.2.2.2.2.1.1, .sl false v12.2.2.2.2.2.1.2.1], I a0.k.next] [.pv (eItem x22), .pv (B x23)] ∧
 Ln v12.2.2.2.2.2.1.2.1 (Fk v12.1
 (Fk x23
 (∃ x24, Cl 24 [.agg [I v12.2.2.2.2.2.2.1.1, I v12.2.2.2.2.2.2.1.2.1, I v12.2.2.2.2.2.2.1.2.2.1, I v12.2.2.2.2.2.2.1.2.2.2.1, I v12.2.2.2.2.2.2.1.2.2.2.2.1, I v12.2.2.2.2.2.2.1.2.2.2.2.2.1, .sl false v12.2.2.2.2.2.2.1.2.2.2.2.2.2.1, .sl false v12.2.2.2.2.2.2.1.2.2.2.2.2.2.2.1], eItem x22] [.pv (B x24)] ∧
 Fk x24
 (Fk (v12.2.2.2.2.2.2.1.2.1 == a0.k.next)
 (Fk ((v12.2.2.2.2.2.1.2.1.length : Int) == (w64 (((List.map eItem a0.k.l).length : Int) + 1)))
 (Φ [.pv (B (v12.2.2.2.2.2.1.1 == (w64 (a0.k.next + 1))))])
 (Φ [.pv (B false)]))
 (Φ [.pv (B false)]))
 (Φ [.pv (B false)]))
 (Φ [.pv (B false)]))
 (Φ [.pv (B false)])))))) (v10.1, v10.2.1, v10.2.2.1, 0, (), (v10.2.2.2.2.1.1, v10.2.2.2.2.1.2.1, ()), (v10.2.2.2.2.2.1.1, v10.2.2.2.2.2.1.2.1, v10.2.2.2.2.2.1.2.2.1, v10.2.2.2.2.2.1.2.2.2.1, v10.2.2.2.2.2.1.2.2.2.2.1, v10.2.2.2.2.2.1.2.2.2.2.2.1, v10.2.2.2.2.2.1.2.2.2.2.2.2.1, v10.2.2.2.2.2.1.2.2.2.2.2.2.2.1, ()), (v10.2.2.2.2.2.2.1.1, v10.2.2.2.2.2.2.1.2.1, ()), ())) (fun j11 =>
 (fun j11 : Bool × Int × Int × Unit × (Int × (List PV) × Unit) × (Int × Int × Int × Int × Int × Int × (List PV) × (List PV) × Unit) × (Int × (List PV) × Unit) × Unit → Prop =>
 ∃ x25, Cl 12 [eKeep x6] [.pv (B x25)] ∧
 Fk (!x25)
 (Φ [.pv (B false)])
 (∃ x26, Cl 12 [eKeep x9] [.pv (B x26)] ∧
 Fk (!x26)
 (Φ [.pv (B false)])
 (Fk (x9.next != a0.k.next)
 (Φ [.pv (B false)])
 (Fk (decide (x5 < 0))
 (Φ [.pv (B false)])
 (Fk (decide (64 < x5))
 (Φ [.pv (B false)])
 (Fk (x8 != 0)
 (∃ x27, Cl 15 [eKeep x6, eKeep a0.k] [.pv (B x27)] ∧
 Fk (!x27)
 (Φ [.pv (B false)])
 (Fk (x8 == 0)
 (Fk (decide (x5 < 1))
 (Φ [.pv (B false)])
 (j11 (x1, x5, x8, (), (x6.next, List.map eItem x6.l, ()), (x7.kind, x7.seq, x7.epoch, x7.index, x7.total, x7.count, List.map I x7.l, List.map U8 x7.body, ()), (x9.next, List.map eItem x9.l, ()), ())))
 (j11 (x1, x5, x8, (), (x6.next, List.map eItem x6.l, ()), (x7.kind, x7.seq, x7.epoch, x7.index, x7.total, x7.count, List.map I x7.l, List.map U8 x7.body, ()), (x9.next, List.map eItem x9.l, ()), ()))))
 (Fk (x8 == 0)
 (Fk (decide (x5 < 1))
 (Φ [.pv (B false)])
 (j11 (x1, x5, x8, (), (x6.next, List.map eItem x6.l, ()), (x7.kind, x7.seq, x7.epoch, x7.index, x7.total, x7.count, List.map I x7.l, List.map U8 x7.body, ()), (x9.next, List.map eItem x9.l, ()), ())))
 (j11 (x1, x5, x8, (), (x6.next, List.map eItem x6.l, ()), (x7.kind, x7.seq, x7.epoch, x7.index, x7.total, x7.count, List.map I x7.l, List.map U8 x7.body, ()), (x9.next, List.map eItem x9.l, ()), ()))))))))) (fun v => SmA (.bp 131096 0) ∧ SmA (.pv (I a0.upto)) ∧ SmA (.bp 655440 0) ∧ SmA (.bp 655448 0) ∧ SmA (.bp 721000 0) ∧ SmA (.pv (I a0.k.next)) ∧ SmA (.pv (.sl false (List.map eItem a0.k.l))) ∧ j11 v)))))
theorem t4 (a0 : KeepStaysIn) {Φ : List RV → Prop} (h : P4 a0 Φ) : CtP Try.prog 4 [eKeepStaysIn a0] Φ :=
  ctP_by h 1000 [(6000, .call [.pv .bool]), (7002, .call [.pv .bool]), (7004, .fork [(7013, .off), (7009, .off)] []), (7006, .call [.pv .bool]), (7009, .fork [(7013, .off)] []), (7011, .call [.pv .bool]), (7013, .fork [] []), (9003, .call [.pv (.int .i64)]), (10004, .call [.pv (.ty Keep eKeep), .pv (.ty Item eItem), .pv (.int .i64)]), (11002, .call [.pv (.ty Keep eKeep)]), (12001, .call [.pv .bool]), (12003, .fork [(12015, .off), (12019, .off), (12023, .off), (12033, .off), (12040, .off), (12008, .off)] []), (12005, .call [.pv .bool]), (12008, .fork [(12019, .off), (12023, .off), (12033, .off), (12040, .off), (12015, .off)] []), (12015, .fork [(12023, .off), (12033, .off), (12040, .off), (12019, .off)] []), (12019, .fork [(12033, .off), (12040, .off), (12023, .off)] []), (12023, .fork [(12040, .off), (12033, .off)] []), (12026, .fork [] [(12033, .off)]), (12029, .call [.pv .bool]), (12033, .fork [(12040, .off)] []), (12036, .fork [] [(12040, .off)]), (12040, .fork [] []), (14998, .join [.k 3 (.bp 131096 0), .k 7 (.pv (I a0.upto)), .c 8 .bool, .c 9 (.int .i64), .k 10 (.bp 655440 0), .k 11 (.bp 655448 0), .c 12 (.int .i64), .k 13 (.bp 721000 0), .box 131096 true [.k (.pv (I a0.k.next)), .k (.pv (.sl false (List.map eItem a0.k.l)))], .box 655440 true [.h (.int .i64), .h .sl], .box 655448 true [.h (.int .i64), .h (.int .i64), .h (.int .i64), .h (.int .i64), .h (.int .i64), .h (.int .i64), .h .sl, .h .sl], .box 721000 true [.h (.int .i64), .h .sl]]), (15004, .fork [] []), (15997, .lens [3]), (15999, .loop [.k 3 (.bp 131096 0), .k 7 (.pv (I a0.upto)), .c 8 .bool, .c 9 (.int .i64), .k 10 (.bp 655440 0), .k 11 (.bp 655448 0), .c 12 (.int .i64), .k 13 (.bp 721000 0), .c 14 (.int .i64), .box 131096 true [.k (.pv (I a0.k.next)), .k (.pv (.sl false (List.map eItem a0.k.l)))], .box 655440 true [.h (.int .i64), .h .sl], .box 655448 true [.h (.int .i64), .h (.int .i64), .h (.int .i64), .h (.int .i64), .h (.int .i64), .h (.int .i64), .h .sl, .h .sl], .box 721000 true [.h (.int .i64), .h .sl]]), (16998, .join [.k 3 (.bp 131096 0), .k 7 (.pv (I a0.upto)), .c 8 .bool, .c 9 (.int .i64), .k 10 (.bp 655440 0), .k 11 (.bp 655448 0), .c 12 (.int .i64), .k 13 (.bp 721000 0), .c 14 (.int .i64), .box 131096 true [.k (.pv (I a0.k.next)), .k (.pv (.sl false (List.map eItem a0.k.l)))], .box 655440 true [.h (.int .i64), .h .sl], .box 655448 true [.h (.int .i64), .h (.int .i64), .h (.int .i64), .h (.int .i64), .h (.int .i64), .h (.int .i64), .h .sl, .h .sl], .box 721000 true [.h (.int .i64), .h .sl]]), (17004, .ix Item eItem), (17007, .call [.pv (.ty Item eItem), .pv .bool]), (18004, .ix Item eItem), (18010, .fork [(18022, .off)] []), (18012, .fork [] [(18022, .off)]), (18017, .ix Item eItem), (18019, .call [.pv .bool]), (18022, .fork [] []), (20001, .fork [] []), (21001, .fork [] []), (21004, .fork [] []), (21007, .fork [] []), (22003, .call [.pv (.ty Item eItem), .pv .bool]), (23001, .fork [] [(23004, .off), (23009, .off), (23016, .off), (23026, .off)]), (23004, .fork [] [(23009, .off), (23016, .off), (23026, .off)]), (23007, .call [.pv .bool]), (23009, .fork [] [(23016, .off), (23026, .off)]), (23016, .fork [] [(23026, .off)]), (23026, .fork [] []), (23997, .lens [10])] mixed Try.func4 rfl (by kernel_rfl) (by kernel_rfl)

/-- precentorlaw08.KeepMany -/
def P5 (a0 : UInt8) (a1 : UInt8) (a2 : List PV) (Φ : List RV → Prop) : Prop :=
 ∃ x1, Cl 9 [] [.pv (B x1)] ∧
 Nz 65 (
 Nz 10 (
 Ln a2 (Fk (decide (20 < (a2.length : Int)))
 (Φ [.pv (B x1)])
 (∃ x2, Cl 16 [] [.pv (eKeep x2)] ∧
 SmA (.pv (.sl false a2)) ∧ SmA (.pv (I (Int.tmod (w64 (a0.toNat : Int)) 65))) ∧ SmA (.pv (I (Int.tmod (w64 (a1.toNat : Int)) 10))) ∧ SmA (.bp 393296 0) ∧ Lo (fun (L4 : Bool × Int × Int × Int × (Int × (List PV) × Unit) × Unit → Prop) (v3 : Bool × Int × Int × Int × (Int × (List PV) × Unit) × Unit) =>
 Fk (decide (v3.2.2.2.1 ≤ (a2.length : Int)))
 (Jn (fun v5 : Bool × Int × Int × Int × (Int × (List PV) × Unit) × Unit =>
 SmA (.pv (.sl false a2)) ∧ SmA (.pv (I (Int.tmod (w64 (a0.toNat : Int)) 65))) ∧ SmA (.pv (I (Int.tmod (w64 (a1.toNat : Int)) 10))) ∧ SmA (.bp 393296 0) ∧ L4 (v5.1, v5.2.1, v5.2.2.1, w64 (v5.2.2.2.1 + 1), (v5.2.2.2.2.1.1, v5.2.2.2.2.1.2.1, ()), ())) (fun j6 =>
 (fun j6 : Bool × Int × Int × Int × (Int × (List PV) × Unit) × Unit → Prop =>
 Jn (fun v7 : Bool × Int × Int × Int × Int × (Int × (List PV) × Unit) × Unit =>
 ∃ x9, Cl 22 [.agg [I v7.2.2.2.2.2.1.1, .sl false v7.2.2.2.2.2.1.2.1], I (Int.tmod (w64 (a0.toNat : Int)) 65), I (Int.tmod (w64 (a1.toNat : Int)) 10)] [.pv (I x9)] ∧
 Fk (x9 != v7.2.2.2.2.1)
 (Φ [.pv (B false)])
 (SmA (.pv (.sl false a2)) ∧ SmA (.pv (I (Int.tmod (w64 (a0.toNat : Int)) 65))) ∧ SmA (.pv (I (Int.tmod (w64 (a1.toNat : Int)) 10))) ∧ SmA (.bp 393296 0) ∧ Lo (fun (L11 : Bool × Int × Int × Int × Int × Int × (Int × (List PV) × Unit) × Unit → Prop) (v10 : Bool × Int × Int × Int × Int × Int × (Int × (List PV) × Unit) × Unit) =>
 Fk (decide (v10.2.2.2.2.2.1 ≤ v10.2.2.2.2.1))
 (∃ x12 x13 x14, Cl 18 [.agg [I v10.2.2.2.2.2.2.1.1, .sl false v10.2.2.2.2.2.2.1.2.1], .agg [I 3, I 0, I 0, I 0, I 0, I 0, .sl true [], .sl true []], I (Int.tmod (w64 (a0.toNat : Int)) 65), I (Int.tmod (w64 (a1.toNat : Int)) 10)] [.pv (eKeep x12), .pv (eItem x13), .pv (I x14)] ∧
 Jn (fun v15 : Bool × Int × Int × Int × Int × Int × Int × (Int × (List PV) × Unit) × (Int × (List PV) × Unit) × Unit =>
 Jn (fun v17 : Bool × Int × Int × Int × Int × Int × (Int × (List PV) × Unit) × (Int × (List PV) × Unit) × Unit =>
 SmA (.pv (.sl false a2)) ∧ SmA (.pv (I (Int.tmod (w64 (a0.toNat : Int)) 65))) ∧ SmA (.pv (I (Int.tmod (w64 (a1.toNat : Int)) 10))) ∧ SmA (.bp 393296 0) ∧ L11 (v17.1, v17.2.1, v17.2.2.1, v17.2.2.2.1, v17.2.2.2.2.1, w64 (v17.2.2.2.2.2.1 + 1), (v17.2.2.2.2.2.2.2.1.1, v17.2.2.2.2.2.2.2.1.2.1, ()), ())) (fun j18 =>
 (fun j18 : Bool × Int × Int × Int × Int × Int × (Int × (List PV) × Unit) × (Int × (List PV) × Unit) × Unit → Prop =>
 Fk (v15.2.2.2.2.2.2.1 == 0)
 (j18 (v15.1, w64 (v15.2.1 + 1), v15.2.2.1, v15.2.2.2.1, v15.2.2.2.2.1, v15.2.2.2.2.2.1, (v15.2.2.2.2.2.2.2.1.1, v15.2.2.2.2.2.2.2.1.2.1, ()), (v15.2.2.2.2.2.2.2.2.1.1, v15.2.2.2.2.2.2.2.2.1.2.1, ()), ()))
 (j18 (v15.1, v15.2.1, v15.2.2.1, v15.2.2.2.1, v15.2.2.2.2.1, v15.2.2.2.2.2.1, (v15.2.2.2.2.2.2.2.1.1, v15.2.2.2.2.2.2.2.1.2.1, ()), (v15.2.2.2.2.2.2.2.2.1.1, v15.2.2.2.2.2.2.2.2.1.2.1, ()), ()))) (fun v => SmA (.pv (.sl false a2)) ∧ SmA (.pv (I (Int.tmod (w64 (a0.toNat : Int)) 65))) ∧ SmA (.pv (I (Int.tmod (w64 (a1.toNat : Int)) 10))) ∧ SmA (.bp 393296 0) ∧ SmA (.bp 1179776 0) ∧ j18 v))) (fun j16 =>
 (fun j16 : Bool × Int × Int × Int × Int × Int × Int × (Int × (List PV) × Unit) × (Int × (List PV) × Unit) × Unit → Prop =>
 Fk ((x14 == 0) != (decide (v10.2.2.2.2.2.1 < v10.2.2.2.2.1)))
 (Φ [.pv (B false)])
 (Fk (x14 == 0)
 (Fk (x13.seq != v10.2.1)
 (Φ [.pv (B false)])
 (j16 (v10.1, v10.2.1, v10.2.2.1, v10.2.2.2.1, v10.2.2.2.2.1, v10.2.2.2.2.2.1, x14, (v10.2.2.2.2.2.2.1.1, v10.2.2.2.2.2.2.1.2.1, ()), (x12.next, List.map eItem x12.l, ()), ())))
 (j16 (v10.1, v10.2.1, v10.2.2.1, v10.2.2.2.1, v10.2.2.2.2.1, v10.2.2.2.2.2.1, x14, (v10.2.2.2.2.2.2.1.1, v10.2.2.2.2.2.2.1.2.1, ()), (x12.next, List.map eItem x12.l, ()), ())))) (fun v => SmA (.pv (.sl false a2)) ∧ SmA (.pv (I (Int.tmod (w64 (a0.toNat : Int)) 65))) ∧ SmA (.pv (I (Int.tmod (w64 (a1.toNat : Int)) 10))) ∧ SmA (.bp 393296 0) ∧ SmA (.bp 1179776 0) ∧ j16 v)))
 (Fk (decide (v10.2.2.2.1 < (a2.length : Int)))
 (Ix U8 a2 v10.2.2.2.1 fun x19 =>
 Nz 20 (
 ∃ x20, Cl 25 [.agg [I v10.2.2.2.2.2.2.1.1, .sl false v10.2.2.2.2.2.2.1.2.1], I (w64 ((w64 (v10.2.2.1 - 1)) + (Int.tmod (w64 (x19.toNat : Int)) 20)))] [.pv (eKeep x20)] ∧
 Jn (fun v21 : Bool × Int × Int × Int × (Int × (List PV) × Unit) × Unit =>
 Fk (decide (v21.2.1 < v21.2.2.1))
 (j6 (v21.1, v21.2.1, v21.2.1, v21.2.2.2.1, (v21.2.2.2.2.1.1, v21.2.2.2.2.1.2.1, ()), ()))
 (j6 (v21.1, v21.2.1, v21.2.2.1, v21.2.2.2.1, (v21.2.2.2.2.1.1, v21.2.2.2.2.1.2.1, ()), ()))) (fun j22 =>
 (fun j22 : Bool × Int × Int × Int × (Int × (List PV) × Unit) × Unit → Prop =>
 Fk (decide (v10.2.2.1 ≤ (w64 ((w64 (v10.2.2.1 - 1)) + (Int.tmod (w64 (x19.toNat : Int)) 20)))))
 (j22 (v10.1, v10.2.1, w64 ((w64 ((w64 (v10.2.2.1 - 1)) + (Int.tmod (w64 (x19.toNat : Int)) 20))) + 1), v10.2.2.2.1, (x20.next, List.map eItem x20.l, ()), ()))
 (j22 (v10.1, v10.2.1, v10.2.2.1, v10.2.2.2.1, (x20.next, List.map eItem x20.l, ()), ()))) (fun v => SmA (.pv (.sl false a2)) ∧ SmA (.pv (I (Int.tmod (w64 (a0.toNat : Int)) 65))) ∧ SmA (.pv (I (Int.tmod (w64 (a1.toNat : Int)) 10))) ∧ SmA (.bp 393296 0) ∧ j22 v))))
 (j6 (v10.1, v10.2.1, v10.2.2.1, v10.2.2.2.1, (v10.2.2.2.2.2.2.1.1, v10.2.2.2.2.2.2.1.2.1, ()), ())))) (v7.1, v7.2.1, v7.2.2.1, v7.2.2.2.1, v7.2.2.2.2.1, 0, (v7.2.2.2.2.2.1.1, v7.2.2.2.2.2.1.2.1, ()), ()))) (fun j8 =>
 (fun j8 : Bool × Int × Int × Int × Int × (Int × (List PV) × Unit) × Unit → Prop =>
 Fk (decide ((w64 ((w64 ((Int.tmod (w64 (a0.toNat : Int)) 65) - (Int.tmod (w64 (a1.toNat : Int)) 10))) - (w64 (v3.2.1 - v3.2.2.1)))) < 0))
 (j8 (v3.1, v3.2.1, v3.2.2.1, v3.2.2.2.1, 0, (v3.2.2.2.2.1.1, v3.2.2.2.2.1.2.1, ()), ()))
 (j8 (v3.1, v3.2.1, v3.2.2.1, v3.2.2.2.1, w64 ((w64 ((Int.tmod (w64 (a0.toNat : Int)) 65) - (Int.tmod (w64 (a1.toNat : Int)) 10))) - (w64 (v3.2.1 - v3.2.2.1))), (v3.2.2.2.2.1.1, v3.2.2.2.2.1.2.1, ()), ()))) (fun v => SmA (.pv (.sl false a2)) ∧ SmA (.pv (I (Int.tmod (w64 (a0.toNat : Int)) 65))) ∧ SmA (.pv (I (Int.tmod (w64 (a1.toNat : Int)) 10))) ∧ SmA (.bp 393296 0) ∧ j8 v))) (fun v => SmA (.pv (.sl false a2)) ∧ SmA (.pv (I (Int.tmod (w64 (a0.toNat : Int)) 65))) ∧ SmA (.pv (I (Int.tmod (w64 (a1.toNat : Int)) 10))) ∧ SmA (.bp 393296 0) ∧ j6 v)))
 (Ln v3.2.2.2.2.1.2.1 (Fk v3.1
 (Φ [.pv (B ((v3.2.2.2.2.1.2.1.length : Int) == (w64 (v3.2.1 - v3.2.2.1))))])
 (Φ [.pv (B false)])))) (x1, 1, 1, 0, (x2.next, List.map eItem x2.l, ()), ())))))
theorem t5 (a0 : UInt8) (a1 : UInt8) (a2 : List PV) {Φ : List RV → Prop} (h : P5 a0 a1 a2 Φ) : CtP Try.prog 5 [U8 a0, U8 a1, .sl false a2] Φ :=
  ctP_by h 1000 [(1000, .call [.pv .bool]), (2002, .div), (3002, .div), (4002, .fork [] []), (4997, .lens [2]), (6000, .call [.pv (.ty Keep eKeep)]), (10003, .fork [] []), (10999, .loop [.k 2 (.pv (.sl false a2)), .c 7 .bool, .k 8 (.pv (I (Int.tmod (w64 (a0.toNat : Int)) 65))), .k 9 (.pv (I (Int.tmod (w64 (a1.toNat : Int)) 10))), .k 10 (.bp 393296 0), .c 11 (.int .i64), .c 12 (.int .i64), .c 13 (.int .i64), .box 393296 true [.h (.int .i64), .h .sl]]), (11998, .join [.k 2 (.pv (.sl false a2)), .c 7 .bool, .k 8 (.pv (I (Int.tmod (w64 (a0.toNat : Int)) 65))), .k 9 (.pv (I (Int.tmod (w64 (a1.toNat : Int)) 10))), .k 10 (.bp 393296 0), .c 11 (.int .i64), .c 12 (.int .i64), .c 13 (.int .i64), .box 393296 true [.h (.int .i64), .h .sl]]), (13001, .fork [] []), (15003, .call [.pv (.int .i64)]), (15005, .fork [] []), (15998, .join [.k 2 (.pv (.sl false a2)), .c 7 .bool, .k 8 (.pv (I (Int.tmod (w64 (a0.toNat : Int)) 65))), .k 9 (.pv (I (Int.tmod (w64 (a1.toNat : Int)) 10))), .k 10 (.bp 393296 0), .c 11 (.int .i64), .c 12 (.int .i64), .c 13 (.int .i64), .c 14 (.int .i64), .box 393296 true [.h (.int .i64), .h .sl]]), (18002, .fork [] []), (18999, .loop [.k 2 (.pv (.sl false a2)), .c 7 .bool, .k 8 (.pv (I (Int.tmod (w64 (a0.toNat : Int)) 65))), .k 9 (.pv (I (Int.tmod (w64 (a1.toNat : Int)) 10))), .k 10 (.bp 393296 0), .c 11 (.int .i64), .c 12 (.int .i64), .c 13 (.int .i64), .c 14 (.int .i64), .c 15 (.int .i64), .box 393296 true [.h (.int .i64), .h .sl]]), (20004, .call [.pv (.ty Keep eKeep), .pv (.ty Item eItem), .pv (.int .i64)]), (21006, .fork [(21015, .off)] []), (21009, .fork [] [(21015, .off)]), (21015, .fork [] []), (23001, .fork [] []), (23998, .join [.k 2 (.pv (.sl false a2)), .c 7 .bool, .k 8 (.pv (I (Int.tmod (w64 (a0.toNat : Int)) 65))), .k 9 (.pv (I (Int.tmod (w64 (a1.toNat : Int)) 10))), .k 10 (.bp 393296 0), .c 11 (.int .i64), .c 12 (.int .i64), .c 13 (.int .i64), .c 14 (.int .i64), .c 15 (.int .i64), .k 16 (.bp 1179776 0), .c 18 (.int .i64), .box 393296 true [.h (.int .i64), .h .sl], .box 1179776 true [.h (.int .i64), .h .sl]]), (25998, .join [.k 2 (.pv (.sl false a2)), .c 7 .bool, .k 8 (.pv (I (Int.tmod (w64 (a0.toNat : Int)) 65))), .k 9 (.pv (I (Int.tmod (w64 (a1.toNat : Int)) 10))), .k 10 (.bp 393296 0), .c 11 (.int .i64), .c 12 (.int .i64), .c 13 (.int .i64), .c 14 (.int .i64), .c 15 (.int .i64), .k 16 (.bp 1179776 0), .box 393296 true [.h (.int .i64), .h .sl], .box 1179776 true [.h (.int .i64), .h .sl]]), (26003, .fork [] []), (27004, .ix UInt8 U8), (27007, .div), (28002, .call [.pv (.ty Keep eKeep)]), (29002, .fork [] []), (31002, .fork [] []), (31998, .join [.k 2 (.pv (.sl false a2)), .c 7 .bool, .k 8 (.pv (I (Int.tmod (w64 (a0.toNat : Int)) 65))), .k 9 (.pv (I (Int.tmod (w64 (a1.toNat : Int)) 10))), .k 10 (.bp 393296 0), .c 11 (.int .i64), .c 12 (.int .i64), .c 13 (.int .i64), .box 393296 true [.h (.int .i64), .h .sl]]), (33001, .fork [] []), (33997, .lens [10])] mixed Try.func5 rfl (by kernel_rfl) (by kernel_rfl)

/-- precentorlaw08.KeepSpares -/
def P8 (a0 : KeepSparesIn) (Φ : List RV → Prop) : Prop :=
 ∃ x1, Cl 9 [] [.pv (B x1)] ∧
 ∃ x2, Cl 10 [.sl false (List.map eItem a0.k.l)] [.pv (B x2)] ∧
 Fk (!x2)
 (Φ [.pv (B x1)])
 (∃ x3, Cl 12 [eKeep a0.k] [.pv (B x3)] ∧
 Fk (!x3)
 (Φ [.pv (B x1)])
 (Fk (decide (4611686018427387904 < a0.k.next))
 (Φ [.pv (B x1)])
 (Nz 65 (
 Nz 70 (
 Nz 10 (
 ∃ x4, Cl 22 [eKeep a0.k, I (Int.tmod (w64 (a0.buf.toNat : Int)) 65), I 0] [.pv (I x4)] ∧
 ∃ x5 x6 x7, Cl 18 [eKeep a0.k, .agg [I 3, I 0, I 0, I 0, I 0, I 0, .sl true [], .sl true []], I (Int.tmod (w64 (a0.buf.toNat : Int)) 65), I (Int.tmod (w64 (a0.a.toNat : Int)) 70)] [.pv (eKeep x5), .pv (eItem x6), .pv (I x7)] ∧
 Ln (List.map eItem a0.k.l) (Jn (fun v8 : Bool × Int × Int × Int × Unit × Unit =>
 Fk v8.1
 (Fk (v8.2.1 == v8.2.2.2.1)
 (∃ x10, Cl 22 [eKeep a0.k, I (Int.tmod (w64 (a0.buf.toNat : Int)) 65), I (w64 ((Int.tmod (w64 (a0.a.toNat : Int)) 70) + (Int.tmod (w64 (a0.b.toNat : Int)) 10)))] [.pv (I x10)] ∧
 ∃ x11, Cl 22 [eKeep a0.k, I (Int.tmod (w64 (a0.buf.toNat : Int)) 65), I (Int.tmod (w64 (a0.a.toNat : Int)) 70)] [.pv (I x11)] ∧
 Fk (decide (x10 ≤ x11))
 (∃ x12, Cl 22 [eKeep a0.k, I (Int.tmod (w64 (a0.buf.toNat : Int)) 65), I (Int.tmod (w64 (a0.a.toNat : Int)) 70)] [.pv (I x12)] ∧
 Φ [.pv (B ((v8.2.2.1 == 0) == (decide (0 < x12))))])
 (Φ [.pv (B false)]))
 (Φ [.pv (B false)]))
 (Φ [.pv (B false)])) (fun j9 =>
 (fun j9 : Bool × Int × Int × Int × Unit × Unit → Prop =>
 Fk (decide ((w64 ((Int.tmod (w64 (a0.buf.toNat : Int)) 65) - ((List.map eItem a0.k.l).length : Int))) < 0))
 (j9 (x1, x4, x7, 0, (), ()))
 (j9 (x1, x4, x7, w64 ((Int.tmod (w64 (a0.buf.toNat : Int)) 65) - ((List.map eItem a0.k.l).length : Int)), (), ()))) (fun v => SmA (.bp 131096 0) ∧ SmA (.pv (I (Int.tmod (w64 (a0.buf.toNat : Int)) 65))) ∧ SmA (.pv (I (Int.tmod (w64 (a0.a.toNat : Int)) 70))) ∧ SmA (.pv (I (w64 ((Int.tmod (w64 (a0.a.toNat : Int)) 70) + (Int.tmod (w64 (a0.b.toNat : Int)) 10))))) ∧ SmA (.pv (I a0.k.next)) ∧ SmA (.pv (.sl false (List.map eItem a0.k.l))) ∧ j9 v)))))))))
theorem t8 (a0 : KeepSparesIn) {Φ : List RV → Prop} (h : P8 a0 Φ) : CtP Try.prog 8 [eKeepSparesIn a0] Φ :=
  ctP_by h 1000 [(5000, .call [.pv .bool]), (6002, .call [.pv .bool]), (6004, .fork [(6013, .off), (6009, .off)] []), (6006, .call [.pv .bool]), (6009, .fork [(6013, .off)] []), (6013, .fork [] []), (8002, .div), (9002, .div), (10003, .div), (11002, .call [.pv (.int .i64)]), (12004, .call [.pv (.ty Keep eKeep), .pv (.ty Item eItem), .pv (.int .i64)]), (13997, .lens [3]), (14001, .fork [] []), (16001, .fork [] [(16006, .off), (16017, .off)]), (16006, .fork [] [(16017, .off)]), (16010, .call [.pv (.int .i64)]), (16014, .call [.pv (.int .i64)]), (16017, .fork [] []), (16023, .call [.pv (.int .i64)]), (16998, .join [.k 3 (.bp 131096 0), .c 7 .bool, .k 8 (.pv (I (Int.tmod (w64 (a0.buf.toNat : Int)) 65))), .k 9 (.pv (I (Int.tmod (w64 (a0.a.toNat : Int)) 70))), .k 10 (.pv (I (w64 ((Int.tmod (w64 (a0.a.toNat : Int)) 70) + (Int.tmod (w64 (a0.b.toNat : Int)) 10))))), .c 11 (.int .i64), .c 14 (.int .i64), .c 15 (.int .i64), .box 131096 true [.k (.pv (I a0.k.next)), .k (.pv (.sl false (List.map eItem a0.k.l)))]])] mixed Try.func8 rfl (by kernel_rfl) (by kernel_rfl)
end Go.Proofs.Ythohhkmlbjffgaa.M
