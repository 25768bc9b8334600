/- The functions of this seat: what must be shown of each (P..), and that it is enough (t..) (written by a program of this session; no condition). -/
import Derived.Test.YtbphgomdjjkffaaProg
import Derived.KernelRfl
import Derived.Test.YtbphgomdjjkffaaNx24
set_option linter.all false
set_option linter.unusedVariables false
set_option linter.unusedSimpArgs false
set_option linter.unnecessarySimpa false
namespace Go.Proofs.Ytbphgomdjjkffaa.M
open Go Go.Mir Go.Proofs
set_option maxRecDepth 100000
set_option linter.unusedVariables false
abbrev Clb (g : Nat) (xs : List BA) (bs : List (List PV)) (rs : List RV) (cs : List (List PV)) : Prop := Cb Try.prog g xs bs rs cs
abbrev Cl (g : Nat) (ps : List PV) (rs : List RV) : Prop := Ct Try.prog g ps rs
theorem mixed : Try.prog.follows .mixedOrders = true := by kernel_rfl
structure Item where
  mk ::
  kind : Int
  seq : Int
  epoch : Int
  index : Int
  total : Int
  count : Int
  l : List Int
  body : List UInt8
abbrev eItem (x : Item) : PV := .agg [I x.kind, I x.seq, I x.epoch, I x.index, I x.total, I x.count, .sl false (List.map I x.l), .sl false (List.map U8 x.body)]
abbrev lItem (l : List Item) : PV := .sl false (l.map eItem)
structure Win where
  mk ::
  next : Int
  l : List Item
abbrev eWin (x : Win) : PV := .agg [I x.next, .sl false (List.map eItem x.l)]
abbrev lWin (l : List Win) : PV := .sl false (l.map eWin)
structure WinTellsIn where
  mk ::
  w : Win
  o : Win
  it : Item
  last : Int
abbrev eWinTellsIn (x : WinTellsIn) : PV := .agg [I x.w.next, .sl false (List.map eItem x.w.l), I x.o.next, .sl false (List.map eItem x.o.l), I x.it.kind, I x.it.seq, I x.it.epoch, I x.it.index, I x.it.total, I x.it.count, .sl false (List.map I x.it.l), .sl false (List.map U8 x.it.body), I x.last]
abbrev lWinTellsIn (l : List WinTellsIn) : PV := .sl false (l.map eWinTellsIn)
/-- win.New -/
def P15  (Φ : List RV → Prop) : Prop :=
 Φ [.pv (.agg [I 1, .sl true []])]
theorem t15  {Φ : List RV → Prop} (h : P15  Φ) : CtP Try.prog 15 [] Φ :=
  ctP_by h 1000 [] mixed Try.func15 rfl (by kernel_rfl) (by kernel_rfl)

/-- item.rules -/
def P36 (a0 : Item) (Φ : List RV → Prop) : Prop :=
 Φ [.pv (.map [(.int .i64 1, .fn (.func 46) [] [.ip [I a0.kind, I a0.seq, I a0.epoch, I a0.index, I a0.total, I a0.count, .sl false (List.map I a0.l), .sl false (List.map U8 a0.body)] 0]), (.int .i64 2, .fn (.func 47) [] [.ip [.fn (.func 41) [] [.ip [I a0.kind, I a0.seq, I a0.epoch, I a0.index, I a0.total, I a0.count, .sl false (List.map I a0.l), .sl false (List.map U8 a0.body)] 0]] 0, .ip [.fn (.func 42) [] [.ip [I a0.kind, I a0.seq, I a0.epoch, I a0.index, I a0.total, I a0.count, .sl false (List.map I a0.l), .sl false (List.map U8 a0.body)] 0]] 0, .ip [.fn (.func 43) [] [.ip [I a0.kind, I a0.seq, I a0.epoch, I a0.index, I a0.total, I a0.count, .sl false (List.map I a0.l), .sl false (List.map U8 a0.body)] 0]] 0]), (.int .i64 3, .fn (.func 48) [] [.ip [.fn (.func 41) [] [.ip [I a0.kind, I a0.seq, I a0.epoch, I a0.index, I a0.total, I a0.count, .sl false (List.map I a0.l), .sl false (List.map U8 a0.body)] 0]] 0, .ip [.fn (.func 45) [] [.ip [I a0.kind, I a0.seq, I a0.epoch, I a0.index, I a0.total, I a0.count, .sl false (List.map I a0.l), .sl false (List.map U8 a0.body)] 0]] 0]), (.int .i64 4, .fn (.func 49) [] [.ip [.fn (.func 41) [] [.ip [I a0.kind, I a0.seq, I a0.epoch, I a0.index, I a0.total, I a0.count, .sl false (List.map I a0.l), .sl false (List.map U8 a0.body)] 0]] 0, .ip [.fn (.func 42) [] [.ip [I a0.kind, I a0.seq, I a0.epoch, I a0.index, I a0.total, I a0.count, .sl false (List.map I a0.l), .sl false (List.map U8 a0.body)] 0]] 0, .ip [.fn (.func 45) [] [.ip [I a0.kind, I a0.seq, I a0.epoch, I a0.index, I a0.total, I a0.count, .sl false (List.map I a0.l), .sl false (List.map U8 a0.body)] 0]] 0]), (.int .i64 5, .fn (.func 50) [] [.ip [.fn (.func 41) [] [.ip [I a0.kind, I a0.seq, I a0.epoch, I a0.index, I a0.total, I a0.count, .sl false (List.map I a0.l), .sl false (List.map U8 a0.body)] 0]] 0, .ip [.fn (.func 45) [] [.ip [I a0.kind, I a0.seq, I a0.epoch, I a0.index, I a0.total, I a0.count, .sl false (List.map I a0.l), .sl false (List.map U8 a0.body)] 0]] 0, .ip [I a0.kind, I a0.seq, I a0.epoch, I a0.index, I a0.total, I a0.count, .sl false (List.map I a0.l), .sl false (List.map U8 a0.body)] 0]), (.int .i64 6, .fn (.func 51) [] [.ip [.fn (.func 41) [] [.ip [I a0.kind, I a0.seq, I a0.epoch, I a0.index, I a0.total, I a0.count, .sl false (List.map I a0.l), .sl false (List.map U8 a0.body)] 0]] 0, .ip [.fn (.func 43) [] [.ip [I a0.kind, I a0.seq, I a0.epoch, I a0.index, I a0.total, I a0.count, .sl false (List.map I a0.l), .sl false (List.map U8 a0.body)] 0]] 0])])]
theorem t36 (a0 : Item) {Φ : List RV → Prop} (h : P36 a0 Φ) : CtP Try.prog 36 [eItem a0] Φ :=
  ctP_by h 1000 [] mixed Try.func36 rfl (by kernel_rfl) (by kernel_rfl)

/-- item.within -/
def P37 (a0 : Int) (a1 : Int) (a2 : Int) (Φ : List RV → Prop) : Prop :=
 Fk (decide (a1 ≤ a0))
 (Φ [.pv (B (decide (a0 ≤ a2)))])
 (Φ [.pv (B false)])
theorem t37 (a0 : Int) (a1 : Int) (a2 : Int) {Φ : List RV → Prop} (h : P37 a0 a1 a2 Φ) : CtP Try.prog 37 [I a0, I a1, I a2] Φ :=
  ctP_by h 1000 [(1003, .fork [] [])] mixed Try.func37 rfl (by kernel_rfl) (by kernel_rfl)

/-- item.rules$5 -/
def P46a (b0 : Item) (Φ : List RV → Prop) : Prop :=
 ∃ x1, Cl 37 [I b0.total, I 1, I 32] [.pv (B x1)] ∧
 Fk x1
 (∃ x2, Cl 37 [I b0.index, I 0, I (w64 (b0.total - 1))] [.pv (B x2)] ∧
 Fk x2
 (Fk (b0.count == 0)
 (Fk (((List.map I b0.l).length : Int) == 0)
 (Φ [.pv (B (decide (((List.map U8 b0.body).length : Int) ≤ 1024)))])
 (Φ [.pv (B false)]))
 (Φ [.pv (B false)]))
 (Φ [.pv (B false)]))
 (Φ [.pv (B false)])
theorem t46a (b0 : Item) {Φ : List RV → Prop} (h : P46a b0 Φ) : CtP Try.prog 46 [.ip ((eItem b0).cells) 0] Φ :=
  ctP_by h 1000 [(1002, .call [.pv .bool]), (1003, .fork [] [(1011, .off), (1016, .off), (1022, .off)]), (1009, .call [.pv .bool]), (1011, .fork [] [(1016, .off), (1022, .off)]), (1016, .fork [] [(1022, .off)]), (1022, .fork [] [])] mixed Try.func46 rfl (by kernel_rfl) (by kernel_rfl)

/-- item.rules$1 -/
def P41a (b0 : Bool) (b1 : Bool) (b2 : Item) (Φ : List RV → Prop) : Prop :=
 Fk (b2.total == 0)
 (Fk b0
 (Fk b1
 (Φ [.pv (B true)])
 (Φ [.pv (B (b2.count == 0))]))
 (Fk (b2.index == 0)
 (Fk b1
 (Φ [.pv (B true)])
 (Φ [.pv (B (b2.count == 0))]))
 (Φ [.pv (B false)])))
 (Φ [.pv (B false)])
theorem t41a (b0 : Bool) (b1 : Bool) (b2 : Item) {Φ : List RV → Prop} (h : P41a b0 b1 b2 Φ) : CtP Try.prog 41 [B b0, B b1, .ip ((eItem b2).cells) 0] Φ :=
  ctP_by h 1000 [(1003, .fork [] [(1011, .off)]), (1005, .fork [(1011, .off)] []), (1011, .fork [] []), (1013, .fork [] [])] mixed Try.func41 rfl (by kernel_rfl) (by kernel_rfl)

/-- item.rules$2 -/
def P42a (b0 : Item) (Φ : List RV → Prop) : Prop :=
 ∃ x1, Cl 37 [I b0.index, I 0, I 1] [.pv (B x1)] ∧
 Φ [.pv (B x1)]
theorem t42a (b0 : Item) {Φ : List RV → Prop} (h : P42a b0 Φ) : CtP Try.prog 42 [.ip ((eItem b0).cells) 0] Φ :=
  ctP_by h 1000 [(1002, .call [.pv .bool])] mixed Try.func42 rfl (by kernel_rfl) (by kernel_rfl)

/-- item.each -/
def P44 (a0 : List PV) (a1 : Int) (Φ : List RV → Prop) : Prop :=
 Ln a0 (SmA (.pv (I a1)) ∧ SmA (.pv (.sl false a0)) ∧ SmA (.pv (I (a0.length : Int))) ∧ Lo (fun (L2 : Int × Unit → Prop) (v1 : Int × Unit) =>
 Fk (decide (v1.1 < (a0.length : Int)))
 (Ix I a0 v1.1 fun x3 =>
 ∃ x4, Cl 37 [I x3, I 0, I a1] [.pv (B x4)] ∧
 Fk (!x4)
 (Φ [.pv (B false)])
 (SmA (.pv (I a1)) ∧ SmA (.pv (.sl false a0)) ∧ SmA (.pv (I (a0.length : Int))) ∧ L2 (w64 (v1.1 + 1), ())))
 (Φ [.pv (B true)])) (0, ()))
theorem t44 (a0 : List PV) (a1 : Int) {Φ : List RV → Prop} (h : P44 a0 a1 Φ) : CtP Try.prog 44 [.sl false a0, I a1] Φ :=
  ctP_by h 1000 [(1997, .lens [0]), (2000, .fork [] []), (2999, .loop [.k 1 (.pv (I a1)), .k 7 (.pv (.sl false a0)), .k 8 (.pv (I (a0.length : Int))), .c 9 (.int .i64)]), (3000, .ix Int I), (4002, .call [.pv .bool]), (4003, .fork [] [])] mixed Try.func44 rfl (by kernel_rfl) (by kernel_rfl)

/-- item.rules$3 -/
def P43a (b0 : Int) (b1 : Int) (b2 : Int) (b3 : Item) (Φ : List RV → Prop) : Prop :=
 ∃ x1, Cl 37 [I ((List.map I b3.l).length : Int), I b0, I b1] [.pv (B x1)] ∧
 Fk x1
 (∃ x2, Cl 44 [.sl false (List.map I b3.l), I b2] [.pv (B x2)] ∧
 Fk x2
 (Φ [.pv (B (((List.map U8 b3.body).length : Int) == 0))])
 (Φ [.pv (B false)]))
 (Φ [.pv (B false)])
theorem t43a (b0 : Int) (b1 : Int) (b2 : Int) (b3 : Item) {Φ : List RV → Prop} (h : P43a b0 b1 b2 b3 Φ) : CtP Try.prog 43 [I b0, I b1, I b2, .ip ((eItem b3).cells) 0] Φ :=
  ctP_by h 1000 [(1005, .call [.pv .bool]), (1006, .fork [] [(1012, .off)]), (1010, .call [.pv .bool]), (1012, .fork [] [])] mixed Try.func43 rfl (by kernel_rfl) (by kernel_rfl)

/-- item.rules$6 -/
def P47a (b0 : Item) (b1 : Item) (b2 : Item) (Φ : List RV → Prop) : Prop :=
 ∃ x1, Cl 41 [B true, B false, .ip ((eItem b0).cells) 0] [.pv (B x1)] ∧
 Fk x1
 (∃ x2, Cl 42 [.ip ((eItem b1).cells) 0] [.pv (B x2)] ∧
 Fk x2
 (∃ x3, Cl 43 [I 1, I 64, I 63, .ip ((eItem b2).cells) 0] [.pv (B x3)] ∧
 Φ [.pv (B x3)])
 (Φ [.pv (B false)]))
 (Φ [.pv (B false)])
theorem t47a (b0 : Item) (b1 : Item) (b2 : Item) {Φ : List RV → Prop} (h : P47a b0 b1 b2 Φ) : CtP Try.prog 47 [.ip [.fn (.func 41) [] [.ip ((eItem b0).cells) 0]] 0, .ip [.fn (.func 42) [] [.ip ((eItem b1).cells) 0]] 0, .ip [.fn (.func 43) [] [.ip ((eItem b2).cells) 0]] 0] Φ :=
  ctP_by h 1000 [(1001, .call [.pv .bool]), (1002, .fork [] [(1006, .off)]), (1004, .call [.pv .bool]), (1006, .fork [] []), (1008, .call [.pv .bool])] mixed Try.func47 rfl (by kernel_rfl) (by kernel_rfl)

/-- item.rules$4 -/
def P45a (b0 : Item) (Φ : List RV → Prop) : Prop :=
 Fk (((List.map I b0.l).length : Int) == 0)
 (Φ [.pv (B (((List.map U8 b0.body).length : Int) == 0))])
 (Φ [.pv (B false)])
theorem t45a (b0 : Item) {Φ : List RV → Prop} (h : P45a b0 Φ) : CtP Try.prog 45 [.ip ((eItem b0).cells) 0] Φ :=
  ctP_by h 1000 [(1004, .fork [] [])] mixed Try.func45 rfl (by kernel_rfl) (by kernel_rfl)

/-- item.rules$7 -/
def P48a (b0 : Item) (b1 : Item) (Φ : List RV → Prop) : Prop :=
 ∃ x1, Cl 41 [B false, B false, .ip ((eItem b0).cells) 0] [.pv (B x1)] ∧
 Fk x1
 (∃ x2, Cl 45 [.ip ((eItem b1).cells) 0] [.pv (B x2)] ∧
 Φ [.pv (B x2)])
 (Φ [.pv (B false)])
theorem t48a (b0 : Item) (b1 : Item) {Φ : List RV → Prop} (h : P48a b0 b1 Φ) : CtP Try.prog 48 [.ip [.fn (.func 41) [] [.ip ((eItem b0).cells) 0]] 0, .ip [.fn (.func 45) [] [.ip ((eItem b1).cells) 0]] 0] Φ :=
  ctP_by h 1000 [(1001, .call [.pv .bool]), (1002, .fork [] []), (1004, .call [.pv .bool])] mixed Try.func48 rfl (by kernel_rfl) (by kernel_rfl)

/-- item.rules$8 -/
def P49a (b0 : Item) (b1 : Item) (b2 : Item) (Φ : List RV → Prop) : Prop :=
 ∃ x1, Cl 41 [B true, B false, .ip ((eItem b0).cells) 0] [.pv (B x1)] ∧
 Fk x1
 (∃ x2, Cl 42 [.ip ((eItem b1).cells) 0] [.pv (B x2)] ∧
 Fk x2
 (∃ x3, Cl 45 [.ip ((eItem b2).cells) 0] [.pv (B x3)] ∧
 Φ [.pv (B x3)])
 (Φ [.pv (B false)]))
 (Φ [.pv (B false)])
theorem t49a (b0 : Item) (b1 : Item) (b2 : Item) {Φ : List RV → Prop} (h : P49a b0 b1 b2 Φ) : CtP Try.prog 49 [.ip [.fn (.func 41) [] [.ip ((eItem b0).cells) 0]] 0, .ip [.fn (.func 42) [] [.ip ((eItem b1).cells) 0]] 0, .ip [.fn (.func 45) [] [.ip ((eItem b2).cells) 0]] 0] Φ :=
  ctP_by h 1000 [(1001, .call [.pv .bool]), (1002, .fork [] [(1006, .off)]), (1004, .call [.pv .bool]), (1006, .fork [] []), (1008, .call [.pv .bool])] mixed Try.func49 rfl (by kernel_rfl) (by kernel_rfl)

/-- item.rules$9 -/
def P50a (b0 : Item) (b1 : Item) (b2 : Item) (Φ : List RV → Prop) : Prop :=
 ∃ x1, Cl 41 [B false, B true, .ip ((eItem b0).cells) 0] [.pv (B x1)] ∧
 Fk x1
 (∃ x2, Cl 45 [.ip ((eItem b1).cells) 0] [.pv (B x2)] ∧
 Fk x2
 (∃ x3, Cl 37 [I b2.count, I 0, I 4611686018427387904] [.pv (B x3)] ∧
 Φ [.pv (B x3)])
 (Φ [.pv (B false)]))
 (Φ [.pv (B false)])
theorem t50a (b0 : Item) (b1 : Item) (b2 : Item) {Φ : List RV → Prop} (h : P50a b0 b1 b2 Φ) : CtP Try.prog 50 [.ip [.fn (.func 41) [] [.ip ((eItem b0).cells) 0]] 0, .ip [.fn (.func 45) [] [.ip ((eItem b1).cells) 0]] 0, .ip ((eItem b2).cells) 0] Φ :=
  ctP_by h 1000 [(1001, .call [.pv .bool]), (1002, .fork [] [(1006, .off)]), (1004, .call [.pv .bool]), (1006, .fork [] []), (1009, .call [.pv .bool])] mixed Try.func50 rfl (by kernel_rfl) (by kernel_rfl)

/-- item.rules$10 -/
def P51a (b0 : Item) (b1 : Item) (Φ : List RV → Prop) : Prop :=
 ∃ x1, Cl 41 [B false, B false, .ip ((eItem b0).cells) 0] [.pv (B x1)] ∧
 Fk x1
 (∃ x2, Cl 43 [I 2, I 64, I 4611686018427387904, .ip ((eItem b1).cells) 0] [.pv (B x2)] ∧
 Φ [.pv (B x2)])
 (Φ [.pv (B false)])
theorem t51a (b0 : Item) (b1 : Item) {Φ : List RV → Prop} (h : P51a b0 b1 Φ) : CtP Try.prog 51 [.ip [.fn (.func 41) [] [.ip ((eItem b0).cells) 0]] 0, .ip [.fn (.func 43) [] [.ip ((eItem b1).cells) 0]] 0] Φ :=
  ctP_by h 1000 [(1001, .call [.pv .bool]), (1002, .fork [] []), (1004, .call [.pv .bool])] mixed Try.func51 rfl (by kernel_rfl) (by kernel_rfl)

/-- item.May -/
def P27 (a0 : Item) (Φ : List RV → Prop) : Prop :=
 Cl 36 [eItem a0] [.pv (.map [(.int .i64 1, .fn (.func 46) [] [.ip [I a0.kind, I a0.seq, I a0.epoch, I a0.index, I a0.total, I a0.count, .sl false (List.map I a0.l), .sl false (List.map U8 a0.body)] 0]), (.int .i64 2, .fn (.func 47) [] [.ip [.fn (.func 41) [] [.ip [I a0.kind, I a0.seq, I a0.epoch, I a0.index, I a0.total, I a0.count, .sl false (List.map I a0.l), .sl false (List.map U8 a0.body)] 0]] 0, .ip [.fn (.func 42) [] [.ip [I a0.kind, I a0.seq, I a0.epoch, I a0.index, I a0.total, I a0.count, .sl false (List.map I a0.l), .sl false (List.map U8 a0.body)] 0]] 0, .ip [.fn (.func 43) [] [.ip [I a0.kind, I a0.seq, I a0.epoch, I a0.index, I a0.total, I a0.count, .sl false (List.map I a0.l), .sl false (List.map U8 a0.body)] 0]] 0]), (.int .i64 3, .fn (.func 48) [] [.ip [.fn (.func 41) [] [.ip [I a0.kind, I a0.seq, I a0.epoch, I a0.index, I a0.total, I a0.count, .sl false (List.map I a0.l), .sl false (List.map U8 a0.body)] 0]] 0, .ip [.fn (.func 45) [] [.ip [I a0.kind, I a0.seq, I a0.epoch, I a0.index, I a0.total, I a0.count, .sl false (List.map I a0.l), .sl false (List.map U8 a0.body)] 0]] 0]), (.int .i64 4, .fn (.func 49) [] [.ip [.fn (.func 41) [] [.ip [I a0.kind, I a0.seq, I a0.epoch, I a0.index, I a0.total, I a0.count, .sl false (List.map I a0.l), .sl false (List.map U8 a0.body)] 0]] 0, .ip [.fn (.func 42) [] [.ip [I a0.kind, I a0.seq, I a0.epoch, I a0.index, I a0.total, I a0.count, .sl false (List.map I a0.l), .sl false (List.map U8 a0.body)] 0]] 0, .ip [.fn (.func 45) [] [.ip [I a0.kind, I a0.seq, I a0.epoch, I a0.index, I a0.total, I a0.count, .sl false (List.map I a0.l), .sl false (List.map U8 a0.body)] 0]] 0]), (.int .i64 5, .fn (.func 50) [] [.ip [.fn (.func 41) [] [.ip [I a0.kind, I a0.seq, I a0.epoch, I a0.index, I a0.total, I a0.count, .sl false (List.map I a0.l), .sl false (List.map U8 a0.body)] 0]] 0, .ip [.fn (.func 45) [] [.ip [I a0.kind, I a0.seq, I a0.epoch, I a0.index, I a0.total, I a0.count, .sl false (List.map I a0.l), .sl false (List.map U8 a0.body)] 0]] 0, .ip [I a0.kind, I a0.seq, I a0.epoch, I a0.index, I a0.total, I a0.count, .sl false (List.map I a0.l), .sl false (List.map U8 a0.body)] 0]), (.int .i64 6, .fn (.func 51) [] [.ip [.fn (.func 41) [] [.ip [I a0.kind, I a0.seq, I a0.epoch, I a0.index, I a0.total, I a0.count, .sl false (List.map I a0.l), .sl false (List.map U8 a0.body)] 0]] 0, .ip [.fn (.func 43) [] [.ip [I a0.kind, I a0.seq, I a0.epoch, I a0.index, I a0.total, I a0.count, .sl false (List.map I a0.l), .sl false (List.map U8 a0.body)] 0]] 0])])] ∧
 Fk (a0.kind == 1)
 (∃ x1, Cl 46 [.ip [I a0.kind, I a0.seq, I a0.epoch, I a0.index, I a0.total, I a0.count, .sl false (List.map I a0.l), .sl false (List.map U8 a0.body)] 0] [.pv (B x1)] ∧
 Fk x1
 (∃ x2, Cl 37 [I a0.seq, I 1, I 4611686018427387904] [.pv (B x2)] ∧
 Fk x2
 (∃ x3, Cl 37 [I a0.epoch, I 0, I 4611686018427387904] [.pv (B x3)] ∧
 Φ [.pv (B x3)])
 (Φ [.pv (B false)]))
 (Φ [.pv (B false)]))
 (Fk (a0.kind == 2)
 (∃ x4, Cl 47 [.ip [.fn (.func 41) [] [.ip [I a0.kind, I a0.seq, I a0.epoch, I a0.index, I a0.total, I a0.count, .sl false (List.map I a0.l), .sl false (List.map U8 a0.body)] 0]] 0, .ip [.fn (.func 42) [] [.ip [I a0.kind, I a0.seq, I a0.epoch, I a0.index, I a0.total, I a0.count, .sl false (List.map I a0.l), .sl false (List.map U8 a0.body)] 0]] 0, .ip [.fn (.func 43) [] [.ip [I a0.kind, I a0.seq, I a0.epoch, I a0.index, I a0.total, I a0.count, .sl false (List.map I a0.l), .sl false (List.map U8 a0.body)] 0]] 0] [.pv (B x4)] ∧
 Fk x4
 (∃ x5, Cl 37 [I a0.seq, I 1, I 4611686018427387904] [.pv (B x5)] ∧
 Fk x5
 (∃ x6, Cl 37 [I a0.epoch, I 0, I 4611686018427387904] [.pv (B x6)] ∧
 Φ [.pv (B x6)])
 (Φ [.pv (B false)]))
 (Φ [.pv (B false)]))
 (Fk (a0.kind == 3)
 (∃ x7, Cl 48 [.ip [.fn (.func 41) [] [.ip [I a0.kind, I a0.seq, I a0.epoch, I a0.index, I a0.total, I a0.count, .sl false (List.map I a0.l), .sl false (List.map U8 a0.body)] 0]] 0, .ip [.fn (.func 45) [] [.ip [I a0.kind, I a0.seq, I a0.epoch, I a0.index, I a0.total, I a0.count, .sl false (List.map I a0.l), .sl false (List.map U8 a0.body)] 0]] 0] [.pv (B x7)] ∧
 Fk x7
 (∃ x8, Cl 37 [I a0.seq, I 1, I 4611686018427387904] [.pv (B x8)] ∧
 Fk x8
 (∃ x9, Cl 37 [I a0.epoch, I 0, I 4611686018427387904] [.pv (B x9)] ∧
 Φ [.pv (B x9)])
 (Φ [.pv (B false)]))
 (Φ [.pv (B false)]))
 (Fk (a0.kind == 4)
 (∃ x10, Cl 49 [.ip [.fn (.func 41) [] [.ip [I a0.kind, I a0.seq, I a0.epoch, I a0.index, I a0.total, I a0.count, .sl false (List.map I a0.l), .sl false (List.map U8 a0.body)] 0]] 0, .ip [.fn (.func 42) [] [.ip [I a0.kind, I a0.seq, I a0.epoch, I a0.index, I a0.total, I a0.count, .sl false (List.map I a0.l), .sl false (List.map U8 a0.body)] 0]] 0, .ip [.fn (.func 45) [] [.ip [I a0.kind, I a0.seq, I a0.epoch, I a0.index, I a0.total, I a0.count, .sl false (List.map I a0.l), .sl false (List.map U8 a0.body)] 0]] 0] [.pv (B x10)] ∧
 Fk x10
 (∃ x11, Cl 37 [I a0.seq, I 1, I 4611686018427387904] [.pv (B x11)] ∧
 Fk x11
 (∃ x12, Cl 37 [I a0.epoch, I 0, I 4611686018427387904] [.pv (B x12)] ∧
 Φ [.pv (B x12)])
 (Φ [.pv (B false)]))
 (Φ [.pv (B false)]))
 (Fk (a0.kind == 5)
 (∃ x13, Cl 50 [.ip [.fn (.func 41) [] [.ip [I a0.kind, I a0.seq, I a0.epoch, I a0.index, I a0.total, I a0.count, .sl false (List.map I a0.l), .sl false (List.map U8 a0.body)] 0]] 0, .ip [.fn (.func 45) [] [.ip [I a0.kind, I a0.seq, I a0.epoch, I a0.index, I a0.total, I a0.count, .sl false (List.map I a0.l), .sl false (List.map U8 a0.body)] 0]] 0, .ip [I a0.kind, I a0.seq, I a0.epoch, I a0.index, I a0.total, I a0.count, .sl false (List.map I a0.l), .sl false (List.map U8 a0.body)] 0] [.pv (B x13)] ∧
 Fk x13
 (∃ x14, Cl 37 [I a0.seq, I 1, I 4611686018427387904] [.pv (B x14)] ∧
 Fk x14
 (∃ x15, Cl 37 [I a0.epoch, I 0, I 4611686018427387904] [.pv (B x15)] ∧
 Φ [.pv (B x15)])
 (Φ [.pv (B false)]))
 (Φ [.pv (B false)]))
 (Fk (a0.kind == 6)
 (∃ x16, Cl 51 [.ip [.fn (.func 41) [] [.ip [I a0.kind, I a0.seq, I a0.epoch, I a0.index, I a0.total, I a0.count, .sl false (List.map I a0.l), .sl false (List.map U8 a0.body)] 0]] 0, .ip [.fn (.func 43) [] [.ip [I a0.kind, I a0.seq, I a0.epoch, I a0.index, I a0.total, I a0.count, .sl false (List.map I a0.l), .sl false (List.map U8 a0.body)] 0]] 0] [.pv (B x16)] ∧
 Fk x16
 (∃ x17, Cl 37 [I a0.seq, I 1, I 4611686018427387904] [.pv (B x17)] ∧
 Fk x17
 (∃ x18, Cl 37 [I a0.epoch, I 0, I 4611686018427387904] [.pv (B x18)] ∧
 Φ [.pv (B x18)])
 (Φ [.pv (B false)]))
 (Φ [.pv (B false)]))
 (Φ [.pv (B false)]))))))
theorem t27 (a0 : Item) {Φ : List RV → Prop} (h : P27 a0 Φ) : CtP Try.prog 27 [eItem a0] Φ :=
  ctP_by h 1000 [(1001, .call [.pv (.cst (.map [(.int .i64 1, .fn (.func 46) [] [.ip [I a0.kind, I a0.seq, I a0.epoch, I a0.index, I a0.total, I a0.count, .sl false (List.map I a0.l), .sl false (List.map U8 a0.body)] 0]), (.int .i64 2, .fn (.func 47) [] [.ip [.fn (.func 41) [] [.ip [I a0.kind, I a0.seq, I a0.epoch, I a0.index, I a0.total, I a0.count, .sl false (List.map I a0.l), .sl false (List.map U8 a0.body)] 0]] 0, .ip [.fn (.func 42) [] [.ip [I a0.kind, I a0.seq, I a0.epoch, I a0.index, I a0.total, I a0.count, .sl false (List.map I a0.l), .sl false (List.map U8 a0.body)] 0]] 0, .ip [.fn (.func 43) [] [.ip [I a0.kind, I a0.seq, I a0.epoch, I a0.index, I a0.total, I a0.count, .sl false (List.map I a0.l), .sl false (List.map U8 a0.body)] 0]] 0]), (.int .i64 3, .fn (.func 48) [] [.ip [.fn (.func 41) [] [.ip [I a0.kind, I a0.seq, I a0.epoch, I a0.index, I a0.total, I a0.count, .sl false (List.map I a0.l), .sl false (List.map U8 a0.body)] 0]] 0, .ip [.fn (.func 45) [] [.ip [I a0.kind, I a0.seq, I a0.epoch, I a0.index, I a0.total, I a0.count, .sl false (List.map I a0.l), .sl false (List.map U8 a0.body)] 0]] 0]), (.int .i64 4, .fn (.func 49) [] [.ip [.fn (.func 41) [] [.ip [I a0.kind, I a0.seq, I a0.epoch, I a0.index, I a0.total, I a0.count, .sl false (List.map I a0.l), .sl false (List.map U8 a0.body)] 0]] 0, .ip [.fn (.func 42) [] [.ip [I a0.kind, I a0.seq, I a0.epoch, I a0.index, I a0.total, I a0.count, .sl false (List.map I a0.l), .sl false (List.map U8 a0.body)] 0]] 0, .ip [.fn (.func 45) [] [.ip [I a0.kind, I a0.seq, I a0.epoch, I a0.index, I a0.total, I a0.count, .sl false (List.map I a0.l), .sl false (List.map U8 a0.body)] 0]] 0]), (.int .i64 5, .fn (.func 50) [] [.ip [.fn (.func 41) [] [.ip [I a0.kind, I a0.seq, I a0.epoch, I a0.index, I a0.total, I a0.count, .sl false (List.map I a0.l), .sl false (List.map U8 a0.body)] 0]] 0, .ip [.fn (.func 45) [] [.ip [I a0.kind, I a0.seq, I a0.epoch, I a0.index, I a0.total, I a0.count, .sl false (List.map I a0.l), .sl false (List.map U8 a0.body)] 0]] 0, .ip [I a0.kind, I a0.seq, I a0.epoch, I a0.index, I a0.total, I a0.count, .sl false (List.map I a0.l), .sl false (List.map U8 a0.body)] 0]), (.int .i64 6, .fn (.func 51) [] [.ip [.fn (.func 41) [] [.ip [I a0.kind, I a0.seq, I a0.epoch, I a0.index, I a0.total, I a0.count, .sl false (List.map I a0.l), .sl false (List.map U8 a0.body)] 0]] 0, .ip [.fn (.func 43) [] [.ip [I a0.kind, I a0.seq, I a0.epoch, I a0.index, I a0.total, I a0.count, .sl false (List.map I a0.l), .sl false (List.map U8 a0.body)] 0]] 0])]))]), (1004, .look [[], [], [], [], [], [], [(2005, .off), (2010, .off)]]), (2003, .call [.pv .bool]), (2005, .fork [] [(2010, .off)]), (2008, .call [.pv .bool]), (2010, .fork [] []), (2013, .call [.pv .bool])] mixed Try.func27 rfl (by kernel_rfl) (by kernel_rfl)

/-- win.place -/
def P31 (a0 : Win) (a1 : Int) (Φ : List RV → Prop) : Prop :=
 Jn (fun u1 : Int × Unit × Unit => Lo (fun (L3 : Int × Unit × Unit → Prop) (v2 : Int × Unit × Unit) =>
 Ln (List.map eItem a0.l) (Fk (decide (v2.1 < ((List.map eItem a0.l).length : Int)))
 (Ix eItem (List.map eItem a0.l) v2.1 fun x5 =>
 Fk (decide (x5.seq < a1))
 (SmA (.pv (I a1)) ∧ SmA (.bp 65552 0) ∧ SmA (.pv (I a0.next)) ∧ SmA (.pv (.sl false (List.map eItem a0.l))) ∧ L3 (w64 (v2.1 + 1), (), ()))
 (Fk (decide (v2.1 < ((List.map eItem a0.l).length : Int)))
 (Ix eItem (List.map eItem a0.l) v2.1 fun x6 =>
 Φ [.pv (I v2.1), .pv (B (x6.seq == a1))])
 (Φ [.pv (I v2.1), .pv (B false)])))
 (Fk (decide (v2.1 < ((List.map eItem a0.l).length : Int)))
 (Ix eItem (List.map eItem a0.l) v2.1 fun x7 =>
 Φ [.pv (I v2.1), .pv (B (x7.seq == a1))])
 (Φ [.pv (I v2.1), .pv (B false)])))) u1) (fun j4 =>
 Ln (List.map eItem a0.l) (Fk (decide (0 < ((List.map eItem a0.l).length : Int)))
 (Ix eItem (List.map eItem a0.l) 0 fun x8 =>
 Fk (decide (x8.seq < a1))
 (SmA (.pv (I a1)) ∧ SmA (.bp 65552 0) ∧ SmA (.pv (I a0.next)) ∧ SmA (.pv (.sl false (List.map eItem a0.l))) ∧ j4 (1, (), ()))
 (Fk (decide (0 < ((List.map eItem a0.l).length : Int)))
 (Ix eItem (List.map eItem a0.l) 0 fun x9 =>
 Φ [.pv (I 0), .pv (B (x9.seq == a1))])
 (Φ [.pv (I 0), .pv (B false)])))
 (Fk (decide (0 < ((List.map eItem a0.l).length : Int)))
 (Ix eItem (List.map eItem a0.l) 0 fun x10 =>
 Φ [.pv (I 0), .pv (B (x10.seq == a1))])
 (Φ [.pv (I 0), .pv (B false)]))))
theorem t31 (a0 : Win) (a1 : Int) {Φ : List RV → Prop} (h : P31 a0 a1 Φ) : CtP Try.prog 31 [eWin a0, I a1] Φ :=
  ctP_by h 1000 [(1996, .scope 0 [.k 1 (.pv (I a1)), .k 2 (.bp 65552 0), .c 6 (.int .i64), .box 65552 true [.k (.pv (I a0.next)), .k (.pv (.sl false (List.map eItem a0.l)))]]), (2005, .fork [] [(2014, .off)]), (2009, .ix Item eItem), (2014, .fork [] []), (2997, .lens [2]), (4006, .fork [] []), (4010, .ix Item eItem)] mixed Try.func31 rfl (by kernel_rfl) (by kernel_rfl)

/-- slices.Grow[[]api.Item,api.Item] -/
def P52a (b0 : Int) (Φ : List RV → Prop) : Prop :=
 Fk (decide (b0 < 0))
 (False)
 (Jn (fun v1 : List PV × Unit =>
 Φ [.fresh 28 8 v1.1]) (fun j2 =>
 Fk (decide (0 < (w64 (b0 - 0))))
 (Az 96 (w64 (b0 - 0)) (
 j2 ([], ())))
 (j2 ([], ()))))
theorem t52a (b0 : Int) {Φ : List RV → Prop} (h : P52a b0 Φ) : CtP Try.prog 52 [.sl true [], I b0] Φ :=
  ctP_by h 1000 [(1001, .fork [] []), (4001, .fork [] []), (5005, .appz), (5008, .trn), (6998, .join [.r 0 28 8])] mixed Try.func52 rfl (by kernel_rfl) (by kernel_rfl)

/-- slices.Concat[[]api.Item,api.Item] -/
def P40 (a0 : List PV) (Φ : List RV → Prop) : Prop :=
 Ln a0 (SmA (.pv (.sl false a0)) ∧ SmA (.pv (.sl false a0)) ∧ SmA (.pv (I (a0.length : Int))) ∧ Lo (fun (L2 : Int × Int × Unit → Prop) (v1 : Int × Int × Unit) =>
 Fk (decide (v1.2.1 < (a0.length : Int)))
 (Ix lItem a0 v1.2.1 fun x3 =>
 Ln (List.map eItem x3) (Fk (decide ((w64 (v1.1 + ((List.map eItem x3).length : Int))) < 0))
 (False)
 (SmA (.pv (.sl false a0)) ∧ SmA (.pv (.sl false a0)) ∧ SmA (.pv (I (a0.length : Int))) ∧ L2 (w64 (v1.1 + ((List.map eItem x3).length : Int)), w64 (v1.2.1 + 1), ()))))
 (∃ x4, Cl 52 [.sl true [], I v1.1] [.fresh 28 8 x4] ∧
 SmA (.pv (.sl false a0)) ∧ SmA (.pv (I (a0.length : Int))) ∧ Lo (fun (L6 : List PV × Int × Unit → Prop) (v5 : List PV × Int × Unit) =>
 Fk (decide (v5.2.1 < (a0.length : Int)))
 (Ix lItem a0 v5.2.1 fun x7 =>
 Ok (okNews 8 (List.map eItem x7)) (Sz v5.1.length ((List.map eItem x7).length) 96 (
 SmA (.pv (.sl false a0)) ∧ SmA (.pv (I (a0.length : Int))) ∧ L6 (v5.1 ++ (List.map eItem x7), w64 (v5.2.1 + 1), ()))))
 (Φ [.fresh 28 8 v5.1])) (x4, 0, ()))) (0, 0, ()))
theorem t40 (a0 : List PV) {Φ : List RV → Prop} (h : P40 a0 Φ) : CtP Try.prog 40 [.sl false a0] Φ :=
  ctP_by h 1000 [(2997, .lens [0]), (3000, .fork [] []), (3999, .loop [.k 0 (.pv (.sl false a0)), .c 3 (.int .i64), .k 9 (.pv (.sl false a0)), .k 10 (.pv (I (a0.length : Int))), .c 11 (.int .i64)]), (4000, .ix (List Item) lItem), (5997, .lens [5]), (6001, .fork [] []), (9001, .call [.row 28 8]), (11000, .fork [] []), (11999, .loop [.r 6 28 8, .k 25 (.pv (.sl false a0)), .k 26 (.pv (I (a0.length : Int))), .c 27 (.int .i64)]), (12000, .ix (List Item) lItem), (13002, .app true false)] mixed Try.func40 rfl (by kernel_rfl) (by kernel_rfl)

/-- win.laid -/
def P32 (a0 : List PV) (Φ : List RV → Prop) : Prop :=
 ∃ x1, Cl 40 [.sl false a0] [.fresh 28 8 x1] ∧
 Φ [.fresh 28 8 x1]
theorem t32 (a0 : List PV) {Φ : List RV → Prop} (h : P32 a0 Φ) : CtP Try.prog 32 [.sl false a0] Φ :=
  ctP_by h 1000 [(1001, .call [.row 28 8])] mixed Try.func32 rfl (by kernel_rfl) (by kernel_rfl)

/-- win.Put -/
def P17 (a0 : Win) (a1 : Item) (a2 : Int) (Φ : List RV → Prop) : Prop :=
 Ln (List.map eItem a0.l) (∃ x1, Cl 27 [eItem a1] [.pv (B x1)] ∧
 Fk (!x1)
 (Φ [.pv (eWin a0), .pv (B false)])
 (Fk (decide (a1.seq < a0.next))
 (Φ [.pv (eWin a0), .pv (B false)])
 (Fk (decide (a2 < a1.seq))
 (Φ [.pv (eWin a0), .pv (B false)])
 (Fk (decide (64 ≤ ((List.map eItem a0.l).length : Int)))
 (Φ [.pv (eWin a0), .pv (B false)])
 (∃ x2 x3, Cl 31 [eWin a0, I a1.seq] [.pv (I x2), .pv (B x3)] ∧
 Fk x3
 (Φ [.pv (eWin a0), .pv (B false)])
 (St1 (List.map eItem a0.l) x2 (
 Sd 8 (List.map eItem a0.l) x2 (
 ∃ x4, Cl 32 [.sl false [.sl false (List.take x2.toNat (List.map eItem a0.l)), .sl false [eItem a1], .sl false (List.drop x2.toNat (List.map eItem a0.l))]] [.fresh 28 8 x4] ∧
 Φ [.pv (.agg [I a0.next, .sl false x4]), .pv (B true)]))))))))
theorem t17 (a0 : Win) (a1 : Item) (a2 : Int) {Φ : List RV → Prop} (h : P17 a0 a1 a2 Φ) : CtP Try.prog 17 [eWin a0, eItem a1, I a2] Φ :=
  ctP_by h 1000 [(1001, .call [.pv .bool]), (1003, .fork [(1016, .off), (1021, .off), (1010, .off)] []), (1010, .fork [(1021, .off), (1016, .off)] []), (1016, .fork [(1021, .off)] []), (1021, .fork [] []), (1997, .lens [3]), (3003, .call [.pv (.int .i64), .pv .bool]), (4000, .fork [] []), (6003, .slc), (6009, .slc), (6011, .call [.row 28 8])] mixed Try.func17 rfl (by kernel_rfl) (by kernel_rfl)

/-- win.Peek -/
def P19 (a0 : Win) (Φ : List RV → Prop) : Prop :=
 Ln (List.map eItem a0.l) (Fk (((List.map eItem a0.l).length : Int) == 0)
 (Φ [.pv (.agg [I 0, I 0, I 0, I 0, I 0, I 0, .sl true [], .sl true []]), .pv (B false)])
 (Ix eItem (List.map eItem a0.l) 0 fun x1 =>
 Fk (x1.seq != a0.next)
 (Φ [.pv (.agg [I 0, I 0, I 0, I 0, I 0, I 0, .sl true [], .sl true []]), .pv (B false)])
 (Ix eItem (List.map eItem a0.l) 0 fun x2 =>
 Φ [.pv (eItem x2), .pv (B true)])))
theorem t19 (a0 : Win) {Φ : List RV → Prop} (h : P19 a0 Φ) : CtP Try.prog 19 [eWin a0] Φ :=
  ctP_by h 1000 [(1004, .fork [(1013, .off)] []), (1007, .ix Item eItem), (1013, .fork [] []), (1997, .lens [1]), (3002, .ix Item eItem)] mixed Try.func19 rfl (by kernel_rfl) (by kernel_rfl)

/-- win.Gap -/
def P23 (a0 : Win) (a1 : Int) (Φ : List RV → Prop) : Prop :=
 Jn (fun v1 : Int × Int × Unit × Unit =>
 Fk (decide ((imin a1 4611686018427387904) < v1.1))
 (Φ [.pv (I 0), .pv (I 0)])
 (Jn (fun v3 : Int × Int × Unit =>
 Φ [.pv (I v3.2.1), .pv (I (imin (w64 ((w64 (v3.1 - v3.2.1)) + 1)) 64))]) (fun j4 =>
 Ln (List.map eItem a0.l) (Fk (decide (v1.2.1 < ((List.map eItem a0.l).length : Int)))
 (Ix eItem (List.map eItem a0.l) v1.2.1 fun x5 =>
 j4 (imin (imin a1 4611686018427387904) (w64 (x5.seq - 1)), v1.1, ()))
 (j4 (imin a1 4611686018427387904, v1.1, ())))))) (fun j2 =>
 (fun j2 : Int × Int × Unit × Unit → Prop =>
 SmA (.pv (I (imin a1 4611686018427387904))) ∧ SmA (.bp 65552 0) ∧ SmA (.pv (I a0.next)) ∧ SmA (.pv (.sl false (List.map eItem a0.l))) ∧ Lo (fun (L7 : Int × Int × Unit × Unit → Prop) (v6 : Int × Int × Unit × Unit) =>
 Ln (List.map eItem a0.l) (Fk (decide (v6.2.1 < ((List.map eItem a0.l).length : Int)))
 (Ix eItem (List.map eItem a0.l) v6.2.1 fun x8 =>
 Fk (x8.seq == v6.1)
 (SmA (.pv (I (imin a1 4611686018427387904))) ∧ SmA (.bp 65552 0) ∧ SmA (.pv (I a0.next)) ∧ SmA (.pv (.sl false (List.map eItem a0.l))) ∧ L7 (w64 (v6.1 + 1), w64 (v6.2.1 + 1), (), ()))
 (j2 (v6.1, v6.2.1, (), ())))
 (j2 (v6.1, v6.2.1, (), ())))) (a0.next, 0, (), ())) (fun v => SmA (.pv (I (imin a1 4611686018427387904))) ∧ SmA (.bp 65552 0) ∧ SmA (.pv (I a0.next)) ∧ SmA (.pv (.sl false (List.map eItem a0.l))) ∧ j2 v))
theorem t23 (a0 : Win) (a1 : Int) {Φ : List RV → Prop} (h : P23 a0 a1 Φ) : CtP Try.prog 23 [eWin a0, I a1] Φ :=
  ctP_by h 1000 [(4005, .fork [] [(4014, .off)]), (4009, .ix Item eItem), (4014, .fork [] []), (4997, .lens [2]), (4999, .loop [.k 1 (.pv (I (imin a1 4611686018427387904))), .k 2 (.bp 65552 0), .c 6 (.int .i64), .c 7 (.int .i64), .box 65552 true [.k (.pv (I a0.next)), .k (.pv (.sl false (List.map eItem a0.l)))]]), (7002, .fork [] []), (7998, .join [.k 1 (.pv (I (imin a1 4611686018427387904))), .k 2 (.bp 65552 0), .c 6 (.int .i64), .c 7 (.int .i64), .box 65552 true [.k (.pv (I a0.next)), .k (.pv (.sl false (List.map eItem a0.l)))]]), (9004, .fork [] []), (9997, .lens [2]), (10004, .ix Item eItem), (11998, .join [.c 1 (.int .i64), .c 6 (.int .i64)])] mixed Try.func23 rfl (by kernel_rfl) (by kernel_rfl)

/-- win.Take -/
def P21 (a0 : Win) (Φ : List RV → Prop) : Prop :=
 ∃ x1 x2, Cl 19 [eWin a0] [.pv (eItem x1), .pv (B x2)] ∧
 Fk (!x2)
 (Φ [.pv (.agg [I 0, I 0, I 0, I 0, I 0, I 0, .sl true [], .sl true []]), .pv (eWin a0), .pv (B false)])
 (Sd 8 (List.map eItem a0.l) 1 (
 ∃ x3, Cl 32 [.sl false [.sl false (List.drop 1 (List.map eItem a0.l))]] [.fresh 28 8 x3] ∧
 Φ [.pv (eItem x1), .pv (.agg [I (w64 (a0.next + 1)), .sl false x3]), .pv (B true)]))
theorem t21 (a0 : Win) {Φ : List RV → Prop} (h : P21 a0 Φ) : CtP Try.prog 21 [eWin a0] Φ :=
  ctP_by h 1000 [(1001, .call [.pv (.ty Item eItem), .pv .bool]), (2001, .fork [] []), (4006, .slc), (4008, .call [.row 28 8])] mixed Try.func21 rfl (by kernel_rfl) (by kernel_rfl)

/-- win.Right -/
def P12 (a0 : Win) (Φ : List RV → Prop) : Prop :=
 Ln (List.map eItem a0.l) (SmA (.bp 65544 0) ∧ SmA (.pv (.sl false (List.map eItem a0.l))) ∧ SmA (.pv (I ((List.map eItem a0.l).length : Int))) ∧ SmA (.pv (I a0.next)) ∧ SmA (.pv (.sl false (List.map eItem a0.l))) ∧ Lo (fun (L2 : Int × Int × Unit × Unit → Prop) (v1 : Int × Int × Unit × Unit) =>
 Fk (decide (v1.2.1 < ((List.map eItem a0.l).length : Int)))
 (Ix eItem (List.map eItem a0.l) v1.2.1 fun x3 =>
 ∃ x4, Cl 27 [eItem x3] [.pv (B x4)] ∧
 Fk (!x4)
 (Φ [.pv (B false)])
 (Fk (decide (x3.seq < v1.1))
 (Φ [.pv (B false)])
 (SmA (.bp 65544 0) ∧ SmA (.pv (.sl false (List.map eItem a0.l))) ∧ SmA (.pv (I ((List.map eItem a0.l).length : Int))) ∧ SmA (.pv (I a0.next)) ∧ SmA (.pv (.sl false (List.map eItem a0.l))) ∧ L2 (w64 (x3.seq + 1), w64 (v1.2.1 + 1), (), ()))))
 (Fk (decide (1 ≤ a0.next))
 (Fk (decide (a0.next ≤ 4611686018427387905))
 (Φ [.pv (B (decide (((List.map eItem a0.l).length : Int) ≤ 64)))])
 (Φ [.pv (B false)]))
 (Φ [.pv (B false)]))) (a0.next, 0, (), ()))
theorem t12 (a0 : Win) {Φ : List RV → Prop} (h : P12 a0 Φ) : CtP Try.prog 12 [eWin a0] Φ :=
  ctP_by h 1000 [(2997, .lens [1]), (3000, .fork [] []), (3999, .loop [.k 1 (.bp 65544 0), .c 3 (.int .i64), .k 9 (.pv (.sl false (List.map eItem a0.l))), .k 10 (.pv (I ((List.map eItem a0.l).length : Int))), .c 11 (.int .i64), .box 65544 true [.k (.pv (I a0.next)), .k (.pv (.sl false (List.map eItem a0.l)))]]), (4000, .ix Item eItem), (5001, .call [.pv .bool]), (5003, .fork [(5008, .off)] []), (5008, .fork [] []), (9003, .fork [] [(9008, .off)]), (9008, .fork [] [])] mixed Try.func12 rfl (by kernel_rfl) (by kernel_rfl)

/-- slices.Equal[[]int,int] -/
def P38 (a0 : List PV) (a1 : List PV) (Φ : List RV → Prop) : Prop :=
 Ln a0 (Ln a1 (Fk ((a0.length : Int) != (a1.length : Int))
 (Φ [.pv (B false)])
 (SmA (.pv (.sl false a0)) ∧ SmA (.pv (.sl false a1)) ∧ SmA (.pv (I (a0.length : Int))) ∧ Lo (fun (L2 : Int × Unit → Prop) (v1 : Int × Unit) =>
 Fk (decide (v1.1 < (a0.length : Int)))
 (Ix I a0 v1.1 fun x3 =>
 Ix I a1 v1.1 fun x4 =>
 Fk (x3 != x4)
 (Φ [.pv (B false)])
 (SmA (.pv (.sl false a0)) ∧ SmA (.pv (.sl false a1)) ∧ SmA (.pv (I (a0.length : Int))) ∧ L2 (w64 (v1.1 + 1), ())))
 (Φ [.pv (B true)])) (0, ()))))
theorem t38 (a0 : List PV) (a1 : List PV) {Φ : List RV → Prop} (h : P38 a0 a1 Φ) : CtP Try.prog 38 [.sl false a0, .sl false a1] Φ :=
  ctP_by h 1000 [(1004, .fork [] []), (1997, .lens [0, 1]), (4000, .fork [] []), (4999, .loop [.k 0 (.pv (.sl false a0)), .k 1 (.pv (.sl false a1)), .k 12 (.pv (I (a0.length : Int))), .c 13 (.int .i64)]), (6002, .ix Int I), (6006, .ix Int I), (6008, .fork [] [])] mixed Try.func38 rfl (by kernel_rfl) (by kernel_rfl)

/-- bytes.Equal -/
def P39 (a0 : List PV) (a1 : List PV) (Φ : List RV → Prop) : Prop :=
 By a0 (fun x1 =>
 By a1 (fun x2 =>
 Φ [.pv (B ((⟨x1.toArray⟩ : ByteArray).toList == (⟨x2.toArray⟩ : ByteArray).toList))]))
theorem t39 (a0 : List PV) (a1 : List PV) {Φ : List RV → Prop} (h : P39 a0 a1 Φ) : CtP Try.prog 39 [.sl false a0, .sl false a1] Φ :=
  ctP_by h 1000 [(1001, .b2s), (1003, .b2s)] mixed Try.func39 rfl (by kernel_rfl) (by kernel_rfl)

/-- item.Same -/
def P29 (a0 : Item) (a1 : Item) (Φ : List RV → Prop) : Prop :=
 Fk (a0.kind == a1.kind)
 (Fk (a0.seq == a1.seq)
 (Fk (a0.epoch == a1.epoch)
 (Fk (a0.index == a1.index)
 (Fk (a0.total == a1.total)
 (Fk (a0.count == a1.count)
 (∃ x1, Cl 38 [.sl false (List.map I a0.l), .sl false (List.map I a1.l)] [.pv (B x1)] ∧
 Fk x1
 (∃ x2, Cl 39 [.sl false (List.map U8 a0.body), .sl false (List.map U8 a1.body)] [.pv (B x2)] ∧
 Φ [.pv (B x2)])
 (Φ [.pv (B false)]))
 (Φ [.pv (B false)]))
 (Φ [.pv (B false)]))
 (Φ [.pv (B false)]))
 (Φ [.pv (B false)]))
 (Φ [.pv (B false)]))
 (Φ [.pv (B false)])
theorem t29 (a0 : Item) (a1 : Item) {Φ : List RV → Prop} (h : P29 a0 a1 Φ) : CtP Try.prog 29 [eItem a0, eItem a1] Φ :=
  ctP_by h 1000 [(1005, .fork [] [(1012, .off), (1019, .off), (1026, .off), (1033, .off), (2001, .off), (2008, .off)]), (1012, .fork [] [(1019, .off), (1026, .off), (1033, .off), (2001, .off), (2008, .off)]), (1019, .fork [] [(1026, .off), (1033, .off), (2001, .off), (2008, .off)]), (1026, .fork [] [(1033, .off), (2001, .off), (2008, .off)]), (1033, .fork [] [(2001, .off), (2008, .off)]), (2001, .fork [] [(2008, .off)]), (2006, .call [.pv .bool]), (2008, .fork [] []), (2013, .call [.pv .bool])] mixed Try.func29 rfl (by kernel_rfl) (by kernel_rfl)

/-- slices.EqualFunc[[]api.Item,[]api.Item,api.Item,api.Item] -/
def P28a (b0 : List PV) (b1 : List PV) (Φ : List RV → Prop) : Prop :=
 Ln b0 (Ln b1 (Fk ((b0.length : Int) != (b1.length : Int))
 (Φ [.pv (B false)])
 (SmA (.pv (.sl false b1)) ∧ SmA (.pv (.fn (.func 29) [] [])) ∧ SmA (.pv (.sl false b0)) ∧ SmA (.pv (I (b0.length : Int))) ∧ Lo (fun (L2 : Int × Unit → Prop) (v1 : Int × Unit) =>
 Fk (decide (v1.1 < (b0.length : Int)))
 (Ix eItem b0 v1.1 fun x3 =>
 Ix eItem b1 v1.1 fun x4 =>
 ∃ x5, Cl 29 [eItem x3, eItem x4] [.pv (B x5)] ∧
 Fk (!x5)
 (Φ [.pv (B false)])
 (SmA (.pv (.sl false b1)) ∧ SmA (.pv (.fn (.func 29) [] [])) ∧ SmA (.pv (.sl false b0)) ∧ SmA (.pv (I (b0.length : Int))) ∧ L2 (w64 (v1.1 + 1), ())))
 (Φ [.pv (B true)])) (0, ()))))
theorem t28a (b0 : List PV) (b1 : List PV) {Φ : List RV → Prop} (h : P28a b0 b1 Φ) : CtP Try.prog 28 [.sl false b0, .sl false b1, .fn (.func 29) [] []] Φ :=
  ctP_by h 1000 [(1004, .fork [] []), (1997, .lens [0, 1]), (4000, .fork [] []), (4999, .loop [.k 1 (.pv (.sl false b1)), .k 2 (.pv (.fn (.func 29) [] [])), .k 15 (.pv (.sl false b0)), .k 16 (.pv (I (b0.length : Int))), .c 17 (.int .i64)]), (5001, .ix Item eItem), (6002, .ix Item eItem), (7003, .call [.pv .bool]), (7004, .fork [] [])] mixed Try.func28 rfl (by kernel_rfl) (by kernel_rfl)

/-- win.Same -/
def P13 (a0 : Win) (a1 : Win) (Φ : List RV → Prop) : Prop :=
 Fk (a0.next == a1.next)
 (∃ x1, Cl 28 [.sl false (List.map eItem a0.l), .sl false (List.map eItem a1.l), .fn (.func 29) [] []] [.pv (B x1)] ∧
 Φ [.pv (B x1)])
 (Φ [.pv (B false)])
theorem t13 (a0 : Win) (a1 : Win) {Φ : List RV → Prop} (h : P13 a0 a1 Φ) : CtP Try.prog 13 [eWin a0, eWin a1] Φ :=
  ctP_by h 1000 [(1005, .fork [] []), (1010, .call [.pv .bool])] mixed Try.func13 rfl (by kernel_rfl) (by kernel_rfl)

/-- precentorlaw09.shown -/
def P8  (Φ : List RV → Prop) : Prop :=
 ∃ x1, Cl 15 [] [.pv (eWin x1)] ∧
 ∃ x2 x3, Cl 17 [eWin x1, .agg [I 3, I 2, I 0, I 0, I 0, I 0, .sl true [], .sl true []], I 9] [.pv (eWin x2), .pv (B x3)] ∧
 ∃ x4 x5, Cl 19 [eWin x2] [.pv (eItem x4), .pv (B x5)] ∧
 ∃ x6 x7, Cl 17 [eWin x2, .agg [I 3, I 2, I 0, I 0, I 0, I 0, .sl true [], .sl true []], I 9] [.pv (eWin x6), .pv (B x7)] ∧
 ∃ x8 x9, Cl 17 [eWin x2, .agg [I 3, I 9, I 0, I 0, I 0, I 0, .sl true [], .sl true []], I 8] [.pv (eWin x8), .pv (B x9)] ∧
 ∃ x10 x11, Cl 17 [eWin x2, .agg [I 3, I 1, I 0, I 0, I 0, I 0, .sl true [], .sl true []], I 9] [.pv (eWin x10), .pv (B x11)] ∧
 ∃ x12 x13, Cl 23 [eWin x10, I 3] [.pv (I x12), .pv (I x13)] ∧
 ∃ x14 x15 x16, Cl 21 [eWin x10] [.pv (eItem x14), .pv (eWin x15), .pv (B x16)] ∧
 ∃ x17 x18 x19, Cl 21 [eWin x15] [.pv (eItem x17), .pv (eWin x18), .pv (B x19)] ∧
 ∃ x20 x21 x22, Cl 21 [eWin x18] [.pv (eItem x20), .pv (eWin x21), .pv (B x22)] ∧
 Fk x3
 (Fk (!x5)
 (Fk (!x7)
 (Fk (!x9)
 (Fk x11
 (Fk (x12 == 3)
 (Fk (x13 == 1)
 (Fk x16
 (Fk (x14.seq == 1)
 (Fk x19
 (Fk (x17.seq == 2)
 (Fk (!x22)
 (∃ x23, Cl 12 [eWin x10] [.pv (B x23)] ∧
 Fk x23
 (∃ x24, Cl 12 [.agg [I 0, .sl true []]] [.pv (B x24)] ∧
 Fk (!x24)
 (∃ x25, Cl 13 [eWin x10, eWin x10] [.pv (B x25)] ∧
 Fk x25
 (∃ x26, Cl 13 [eWin x10, eWin x15] [.pv (B x26)] ∧
 Φ [.pv (B (!x26))])
 (Φ [.pv (B false)]))
 (Φ [.pv (B false)]))
 (Φ [.pv (B false)]))
 (Φ [.pv (B false)]))
 (Φ [.pv (B false)]))
 (Φ [.pv (B false)]))
 (Φ [.pv (B false)]))
 (Φ [.pv (B false)]))
 (Φ [.pv (B false)]))
 (Φ [.pv (B false)]))
 (Φ [.pv (B false)]))
 (Φ [.pv (B false)]))
 (Φ [.pv (B false)]))
 (Φ [.pv (B false)]))
 (Φ [.pv (B false)])
theorem t8  {Φ : List RV → Prop} (h : P8  Φ) : CtP Try.prog 8 [] Φ :=
  ctP_by h 1000 [(2000, .call [.pv (.ty Win eWin)]), (2002, .call [.pv (.ty Win eWin), .pv .bool]), (3001, .call [.pv (.ty Item eItem), .pv .bool]), (4002, .call [.pv (.ty Win eWin), .pv .bool]), (5002, .call [.pv (.ty Win eWin), .pv .bool]), (7002, .call [.pv (.ty Win eWin), .pv .bool]), (8001, .call [.pv (.int .i64), .pv (.int .i64)]), (9001, .call [.pv (.ty Item eItem), .pv (.ty Win eWin), .pv .bool]), (10001, .call [.pv (.ty Item eItem), .pv (.ty Win eWin), .pv .bool]), (11001, .call [.pv (.ty Item eItem), .pv (.ty Win eWin), .pv .bool]), (12001, .fork [] [(12005, .off), (12009, .off), (12013, .off), (12016, .off), (12020, .off), (12024, .off), (12027, .off), (12032, .off), (12035, .off), (12040, .off), (12044, .off), (12048, .off), (12053, .off), (12058, .off)]), (12005, .fork [] [(12009, .off), (12013, .off), (12016, .off), (12020, .off), (12024, .off), (12027, .off), (12032, .off), (12035, .off), (12040, .off), (12044, .off), (12048, .off), (12053, .off), (12058, .off)]), (12009, .fork [] [(12013, .off), (12016, .off), (12020, .off), (12024, .off), (12027, .off), (12032, .off), (12035, .off), (12040, .off), (12044, .off), (12048, .off), (12053, .off), (12058, .off)]), (12013, .fork [] [(12016, .off), (12020, .off), (12024, .off), (12027, .off), (12032, .off), (12035, .off), (12040, .off), (12044, .off), (12048, .off), (12053, .off), (12058, .off)]), (12016, .fork [] [(12020, .off), (12024, .off), (12027, .off), (12032, .off), (12035, .off), (12040, .off), (12044, .off), (12048, .off), (12053, .off), (12058, .off)]), (12020, .fork [] [(12024, .off), (12027, .off), (12032, .off), (12035, .off), (12040, .off), (12044, .off), (12048, .off), (12053, .off), (12058, .off)]), (12024, .fork [] [(12027, .off), (12032, .off), (12035, .off), (12040, .off), (12044, .off), (12048, .off), (12053, .off), (12058, .off)]), (12027, .fork [] [(12032, .off), (12035, .off), (12040, .off), (12044, .off), (12048, .off), (12053, .off), (12058, .off)]), (12032, .fork [] [(12035, .off), (12040, .off), (12044, .off), (12048, .off), (12053, .off), (12058, .off)]), (12035, .fork [] [(12040, .off), (12044, .off), (12048, .off), (12053, .off), (12058, .off)]), (12040, .fork [] [(12044, .off), (12048, .off), (12053, .off), (12058, .off)]), (12044, .fork [] [(12048, .off), (12053, .off), (12058, .off)]), (12046, .call [.pv .bool]), (12048, .fork [] [(12053, .off), (12058, .off)]), (12050, .call [.pv .bool]), (12053, .fork [] [(12058, .off)]), (12056, .call [.pv .bool]), (12058, .fork [] []), (12061, .call [.pv .bool])] mixed Try.func8 rfl (by kernel_rfl) (by kernel_rfl)

/-- precentorref03.Few -/
def P10 (a0 : Item) (Φ : List RV → Prop) : Prop :=
 Ln (List.map I a0.l) (Ln (List.map U8 a0.body) (Fk (decide (((List.map I a0.l).length : Int) ≤ 80))
 (Φ [.pv (B (decide (((List.map U8 a0.body).length : Int) ≤ 1100)))])
 (Φ [.pv (B false)])))
theorem t10 (a0 : Item) {Φ : List RV → Prop} (h : P10 a0 Φ) : CtP Try.prog 10 [eItem a0] Φ :=
  ctP_by h 1000 [(1004, .fork [] []), (1997, .lens [1])] mixed Try.func10 rfl (by kernel_rfl) (by kernel_rfl)

/-- precentorref08.Few -/
def P9 (a0 : List PV) (Φ : List RV → Prop) : Prop :=
 Ln a0 (Fk (decide (80 < (a0.length : Int)))
 (Φ [.pv (B false)])
 (SmA (.pv (.sl false a0)) ∧ Lo (fun (L2 : Int × Unit → Prop) (v1 : Int × Unit) =>
 Fk (decide (v1.1 < (a0.length : Int)))
 (Ix eItem a0 v1.1 fun x3 =>
 ∃ x4, Cl 10 [eItem x3] [.pv (B x4)] ∧
 Fk (!x4)
 (Φ [.pv (B false)])
 (SmA (.pv (.sl false a0)) ∧ L2 (w64 (v1.1 + 1), ())))
 (Φ [.pv (B true)])) (0, ())))
theorem t9 (a0 : List PV) {Φ : List RV → Prop} (h : P9 a0 Φ) : CtP Try.prog 9 [.sl false a0] Φ :=
  ctP_by h 1000 [(1002, .fork [] []), (1997, .lens [0]), (4003, .fork [] []), (4999, .loop [.k 0 (.pv (.sl false a0)), .c 3 (.int .i64)]), (6002, .ix Item eItem), (6004, .call [.pv .bool]), (7001, .fork [] [])] mixed Try.func9 rfl (by kernel_rfl) (by kernel_rfl)

/-- precentorref03.in -/
def P35 (a0 : List PV) (a1 : Int) (Φ : List RV → Prop) : Prop :=
 SmA (.pv (.sl false a0)) ∧ SmA (.pv (I a1)) ∧ Lo (fun (L2 : Int × Unit → Prop) (v1 : Int × Unit) =>
 Ln a0 (Fk (decide (v1.1 < (a0.length : Int)))
 (Ix I a0 v1.1 fun x3 =>
 Fk (decide (x3 < 0))
 (Φ [.pv (B false)])
 (Ix I a0 v1.1 fun x4 =>
 Fk (decide (a1 < x4))
 (Φ [.pv (B false)])
 (SmA (.pv (.sl false a0)) ∧ SmA (.pv (I a1)) ∧ L2 (w64 (v1.1 + 1), ()))))
 (Φ [.pv (B true)]))) (0, ())
theorem t35 (a0 : List PV) (a1 : Int) {Φ : List RV → Prop} (h : P35 a0 a1 Φ) : CtP Try.prog 35 [.sl false a0, I a1] Φ :=
  ctP_by h 1000 [(2003, .fork [] []), (2997, .lens [0]), (2999, .loop [.k 0 (.pv (.sl false a0)), .k 1 (.pv (I a1)), .c 5 (.int .i64)]), (4002, .ix Int I), (4005, .fork [(4012, .off)] []), (4008, .ix Int I), (4012, .fork [] [])] mixed Try.func35 rfl (by kernel_rfl) (by kernel_rfl)

/-- precentorref03.May -/
def P26 (a0 : Item) (Φ : List RV → Prop) : Prop :=
 Fk (decide (a0.seq < 1))
 (Φ [.pv (B false)])
 (Fk (decide (4611686018427387904 < a0.seq))
 (Φ [.pv (B false)])
 (Fk (decide (a0.epoch < 0))
 (Φ [.pv (B false)])
 (Fk (decide (4611686018427387904 < a0.epoch))
 (Φ [.pv (B false)])
 (Ln (List.map I a0.l) (Ln (List.map U8 a0.body) (Fk (((List.map I a0.l).length : Int) == 0)
 (Fk (a0.kind == 1)
 (Fk (decide (1 ≤ a0.total))
 (Fk (decide (a0.total ≤ 32))
 (Fk (decide (0 ≤ a0.index))
 (Fk (decide (a0.index < a0.total))
 (Fk (a0.count == 0)
 (Fk (((List.map I a0.l).length : Int) == 0)
 (Φ [.pv (B (decide (((List.map U8 a0.body).length : Int) ≤ 1024)))])
 (Φ [.pv (B false)]))
 (Φ [.pv (B false)]))
 (Φ [.pv (B false)]))
 (Φ [.pv (B false)]))
 (Φ [.pv (B false)]))
 (Φ [.pv (B false)]))
 (Fk (a0.kind == 2)
 (∃ x1, Cl 35 [.sl false (List.map I a0.l), I 63] [.pv (B x1)] ∧
 Fk x1
 (Fk (decide (0 ≤ a0.index))
 (Fk (decide (a0.index ≤ 1))
 (Fk (a0.total == 0)
 (Fk (a0.count == 0)
 (Fk (((List.map U8 a0.body).length : Int) == 0)
 (Fk (decide (1 ≤ ((List.map I a0.l).length : Int)))
 (Φ [.pv (B (decide (((List.map I a0.l).length : Int) ≤ 64)))])
 (Φ [.pv (B false)]))
 (Φ [.pv (B false)]))
 (Φ [.pv (B false)]))
 (Φ [.pv (B false)]))
 (Φ [.pv (B false)]))
 (Φ [.pv (B false)]))
 (Φ [.pv (B false)]))
 (Fk (a0.kind == 3)
 (Fk (((List.map U8 a0.body).length : Int) == 0)
 (Fk (a0.index == 0)
 (Fk (a0.total == 0)
 (Φ [.pv (B (a0.count == 0))])
 (Φ [.pv (B false)]))
 (Φ [.pv (B false)]))
 (Φ [.pv (B false)]))
 (Fk (a0.kind == 4)
 (Fk (((List.map U8 a0.body).length : Int) == 0)
 (Fk (decide (0 ≤ a0.index))
 (Fk (decide (a0.index ≤ 1))
 (Fk (a0.total == 0)
 (Φ [.pv (B (a0.count == 0))])
 (Φ [.pv (B false)]))
 (Φ [.pv (B false)]))
 (Φ [.pv (B false)]))
 (Φ [.pv (B false)]))
 (Fk (a0.kind == 5)
 (Fk (((List.map U8 a0.body).length : Int) == 0)
 (Fk (a0.index == 0)
 (Fk (a0.total == 0)
 (Fk (decide (0 ≤ a0.count))
 (Φ [.pv (B (decide (a0.count ≤ 4611686018427387904)))])
 (Φ [.pv (B false)]))
 (Φ [.pv (B false)]))
 (Φ [.pv (B false)]))
 (Φ [.pv (B false)]))
 (Fk (a0.kind == 6)
 (∃ x2, Cl 35 [.sl false (List.map I a0.l), I 4611686018427387904] [.pv (B x2)] ∧
 Fk x2
 (Fk (a0.index == 0)
 (Fk (a0.total == 0)
 (Fk (a0.count == 0)
 (Fk (((List.map U8 a0.body).length : Int) == 0)
 (Fk (decide (2 ≤ ((List.map I a0.l).length : Int)))
 (Φ [.pv (B (decide (((List.map I a0.l).length : Int) ≤ 64)))])
 (Φ [.pv (B false)]))
 (Φ [.pv (B false)]))
 (Φ [.pv (B false)]))
 (Φ [.pv (B false)]))
 (Φ [.pv (B false)]))
 (Φ [.pv (B false)]))
 (Φ [.pv (B false)])))))))
 (Fk (a0.kind == 1)
 (Fk (decide (1 ≤ a0.total))
 (Fk (decide (a0.total ≤ 32))
 (Fk (decide (0 ≤ a0.index))
 (Fk (decide (a0.index < a0.total))
 (Fk (a0.count == 0)
 (Fk (((List.map I a0.l).length : Int) == 0)
 (Φ [.pv (B (decide (((List.map U8 a0.body).length : Int) ≤ 1024)))])
 (Φ [.pv (B false)]))
 (Φ [.pv (B false)]))
 (Φ [.pv (B false)]))
 (Φ [.pv (B false)]))
 (Φ [.pv (B false)]))
 (Φ [.pv (B false)]))
 (Fk (a0.kind == 2)
 (∃ x3, Cl 35 [.sl false (List.map I a0.l), I 63] [.pv (B x3)] ∧
 Fk x3
 (Fk (decide (0 ≤ a0.index))
 (Fk (decide (a0.index ≤ 1))
 (Fk (a0.total == 0)
 (Fk (a0.count == 0)
 (Fk (((List.map U8 a0.body).length : Int) == 0)
 (Fk (decide (1 ≤ ((List.map I a0.l).length : Int)))
 (Φ [.pv (B (decide (((List.map I a0.l).length : Int) ≤ 64)))])
 (Φ [.pv (B false)]))
 (Φ [.pv (B false)]))
 (Φ [.pv (B false)]))
 (Φ [.pv (B false)]))
 (Φ [.pv (B false)]))
 (Φ [.pv (B false)]))
 (Φ [.pv (B false)]))
 (Fk (a0.kind == 3)
 (Φ [.pv (B false)])
 (Fk (a0.kind == 4)
 (Φ [.pv (B false)])
 (Fk (a0.kind == 5)
 (Φ [.pv (B false)])
 (Fk (a0.kind == 6)
 (∃ x4, Cl 35 [.sl false (List.map I a0.l), I 4611686018427387904] [.pv (B x4)] ∧
 Fk x4
 (Fk (a0.index == 0)
 (Fk (a0.total == 0)
 (Fk (a0.count == 0)
 (Fk (((List.map U8 a0.body).length : Int) == 0)
 (Fk (decide (2 ≤ ((List.map I a0.l).length : Int)))
 (Φ [.pv (B (decide (((List.map I a0.l).length : Int) ≤ 64)))])
 (Φ [.pv (B false)]))
 (Φ [.pv (B false)]))
 (Φ [.pv (B false)]))
 (Φ [.pv (B false)]))
 (Φ [.pv (B false)]))
 (Φ [.pv (B false)]))
 (Φ [.pv (B false)])))))))))))))
theorem t26 (a0 : Item) {Φ : List RV → Prop} (h : P26 a0 Φ) : CtP Try.prog 26 [eItem a0] Φ :=
  ctP_by h 1000 [(1003, .fork [(1013, .off), (1017, .off), (1008, .off)] []), (1008, .fork [(1017, .off), (1013, .off)] []), (1013, .fork [(1017, .off)] []), (1017, .fork [] []), (3004, .fork [] [(11001, .off), (11006, .off), (11011, .off), (13001, .off), (13006, .off), (13011, .off), (13016, .off), (15001, .off), (15006, .off), (15011, .off), (15016, .off)]), (3997, .lens [1]), (5001, .fork [] []), (6003, .fork [] [(6008, .off), (6013, .off), (6020, .off), (6025, .off), (6031, .off)]), (6008, .fork [] [(6013, .off), (6020, .off), (6025, .off), (6031, .off)]), (6013, .fork [] [(6020, .off), (6025, .off), (6031, .off)]), (6020, .fork [] [(6025, .off), (6031, .off)]), (6025, .fork [] [(6031, .off)]), (6031, .fork [] []), (7001, .fork [] []), (8002, .call [.pv .bool]), (9001, .fork [] [(9006, .off), (9011, .off), (9016, .off), (9021, .off), (9027, .off), (9033, .off)]), (9006, .fork [] [(9011, .off), (9016, .off), (9021, .off), (9027, .off), (9033, .off)]), (9011, .fork [] [(9016, .off), (9021, .off), (9027, .off), (9033, .off)]), (9016, .fork [] [(9021, .off), (9027, .off), (9033, .off)]), (9021, .fork [] [(9027, .off), (9033, .off)]), (9027, .fork [] [(9033, .off)]), (9033, .fork [] []), (10001, .fork [] []), (11001, .fork [] [(11006, .off), (11011, .off)]), (11006, .fork [] [(11011, .off)]), (11011, .fork [] []), (12001, .fork [] []), (13001, .fork [] [(13006, .off), (13011, .off), (13016, .off)]), (13006, .fork [] [(13011, .off), (13016, .off)]), (13011, .fork [] [(13016, .off)]), (13016, .fork [] []), (14001, .fork [] []), (15001, .fork [] [(15006, .off), (15011, .off), (15016, .off)]), (15006, .fork [] [(15011, .off), (15016, .off)]), (15011, .fork [] [(15016, .off)]), (15016, .fork [] []), (16001, .fork [] []), (17002, .call [.pv .bool]), (18001, .fork [] [(18006, .off), (18011, .off), (18016, .off), (18022, .off), (18028, .off)]), (18006, .fork [] [(18011, .off), (18016, .off), (18022, .off), (18028, .off)]), (18011, .fork [] [(18016, .off), (18022, .off), (18028, .off)]), (18016, .fork [] [(18022, .off), (18028, .off)]), (18022, .fork [] [(18028, .off)]), (18028, .fork [] [])] mixed Try.func26 rfl (by kernel_rfl) (by kernel_rfl)

/-- precentorref09.Right -/
def P11 (a0 : Win) (Φ : List RV → Prop) : Prop :=
 Ln (List.map eItem a0.l) (Fk (decide (a0.next < 1))
 (Φ [.pv (B false)])
 (Fk (decide (4611686018427387905 < a0.next))
 (Φ [.pv (B false)])
 (Fk (decide (64 < ((List.map eItem a0.l).length : Int)))
 (Φ [.pv (B false)])
 (SmA (.bp 65544 0) ∧ SmA (.pv (I a0.next)) ∧ SmA (.pv (.sl false (List.map eItem a0.l))) ∧ Lo (fun (L2 : Int × Unit × Unit → Prop) (v1 : Int × Unit × Unit) =>
 Fk (decide (v1.1 < ((List.map eItem a0.l).length : Int)))
 (Jn (fun v3 : Int × Unit × Unit =>
 SmA (.bp 65544 0) ∧ SmA (.pv (I a0.next)) ∧ SmA (.pv (.sl false (List.map eItem a0.l))) ∧ L2 (w64 (v3.1 + 1), (), ())) (fun j4 =>
 (fun j4 : Int × Unit × Unit → Prop =>
 Ix eItem (List.map eItem a0.l) v1.1 fun x5 =>
 ∃ x6, Cl 26 [eItem x5] [.pv (B x6)] ∧
 Fk (!x6)
 (Φ [.pv (B false)])
 (Ix eItem (List.map eItem a0.l) v1.1 fun x7 =>
 Fk (decide (x7.seq < a0.next))
 (Φ [.pv (B false)])
 (Fk (decide (0 < v1.1))
 (Ix eItem (List.map eItem a0.l) v1.1 fun x8 =>
 Ix eItem (List.map eItem a0.l) (w64 (v1.1 - 1)) fun x9 =>
 Fk (decide (x8.seq ≤ x9.seq))
 (Φ [.pv (B false)])
 (j4 (v1.1, (), ())))
 (j4 (v1.1, (), ()))))) (fun v => SmA (.bp 65544 0) ∧ SmA (.pv (I a0.next)) ∧ SmA (.pv (.sl false (List.map eItem a0.l))) ∧ j4 v)))
 (Φ [.pv (B true)])) (0, (), ())))))
theorem t11 (a0 : Win) {Φ : List RV → Prop} (h : P11 a0 Φ) : CtP Try.prog 11 [eWin a0] Φ :=
  ctP_by h 1000 [(1003, .fork [(1013, .off), (1008, .off)] []), (1008, .fork [(1013, .off)] []), (1013, .fork [] []), (1997, .lens [1]), (4004, .fork [] []), (4999, .loop [.k 1 (.bp 65544 0), .c 3 (.int .i64), .box 65544 true [.k (.pv (I a0.next)), .k (.pv (.sl false (List.map eItem a0.l)))]]), (5998, .join [.k 1 (.bp 65544 0), .c 3 (.int .i64), .box 65544 true [.k (.pv (I a0.next)), .k (.pv (.sl false (List.map eItem a0.l)))]]), (6003, .ix Item eItem), (6005, .call [.pv .bool]), (7002, .fork [(7032, .off), (7013, .off)] []), (7006, .ix Item eItem), (7013, .fork [(7032, .off)] []), (7016, .fork [] [(7032, .off)]), (7020, .ix Item eItem), (7027, .ix Item eItem), (7032, .fork [] [])] mixed Try.func11 rfl (by kernel_rfl) (by kernel_rfl)

/-- precentorref02.Same -/
def P34 (a0 : List PV) (a1 : List PV) (Φ : List RV → Prop) : Prop :=
 Ln a0 (Ln a1 (Fk ((a0.length : Int) != (a1.length : Int))
 (Φ [.pv (B false)])
 (SmA (.pv (.sl false a0)) ∧ SmA (.pv (.sl false a1)) ∧ Lo (fun (L2 : Int × Unit → Prop) (v1 : Int × Unit) =>
 Fk (decide (v1.1 < (a0.length : Int)))
 (Ix I a0 v1.1 fun x3 =>
 Ix I a1 v1.1 fun x4 =>
 Fk (x3 != x4)
 (Φ [.pv (B false)])
 (SmA (.pv (.sl false a0)) ∧ SmA (.pv (.sl false a1)) ∧ L2 (w64 (v1.1 + 1), ())))
 (Φ [.pv (B true)])) (0, ()))))
theorem t34 (a0 : List PV) (a1 : List PV) {Φ : List RV → Prop} (h : P34 a0 a1 Φ) : CtP Try.prog 34 [.sl false a0, .sl false a1] Φ :=
  ctP_by h 1000 [(1004, .fork [] []), (1997, .lens [0, 1]), (4003, .fork [] []), (4999, .loop [.k 0 (.pv (.sl false a0)), .k 1 (.pv (.sl false a1)), .c 5 (.int .i64)]), (6002, .ix Int I), (6006, .ix Int I), (6008, .fork [] [])] mixed Try.func34 rfl (by kernel_rfl) (by kernel_rfl)

/-- precentorref03.Same -/
def P25 (a0 : Item) (a1 : Item) (Φ : List RV → Prop) : Prop :=
 ∃ x1, Cl 34 [.sl false (List.map I a0.l), .sl false (List.map I a1.l)] [.pv (B x1)] ∧
 Fk x1
 (Fk (a0.kind == a1.kind)
 (Fk (a0.seq == a1.seq)
 (Fk (a0.epoch == a1.epoch)
 (Fk (a0.index == a1.index)
 (Fk (a0.total == a1.total)
 (Fk (a0.count == a1.count)
 (By (List.map U8 a0.body) (fun x2 =>
 By (List.map U8 a1.body) (fun x3 =>
 Φ [.pv (B ((⟨x2.toArray⟩ : ByteArray).toList == (⟨x3.toArray⟩ : ByteArray).toList))])))
 (Φ [.pv (B false)]))
 (Φ [.pv (B false)]))
 (Φ [.pv (B false)]))
 (Φ [.pv (B false)]))
 (Φ [.pv (B false)]))
 (Φ [.pv (B false)]))
 (Φ [.pv (B false)])
theorem t25 (a0 : Item) (a1 : Item) {Φ : List RV → Prop} (h : P25 a0 a1 Φ) : CtP Try.prog 25 [eItem a0, eItem a1] Φ :=
  ctP_by h 1000 [(1004, .call [.pv .bool]), (2001, .fork [] [(2008, .off), (2015, .off), (2022, .off), (2029, .off), (2036, .off), (2043, .off)]), (2008, .fork [] [(2015, .off), (2022, .off), (2029, .off), (2036, .off), (2043, .off)]), (2015, .fork [] [(2022, .off), (2029, .off), (2036, .off), (2043, .off)]), (2022, .fork [] [(2029, .off), (2036, .off), (2043, .off)]), (2029, .fork [] [(2036, .off), (2043, .off)]), (2036, .fork [] [(2043, .off)]), (2043, .fork [] []), (2046, .b2s), (2049, .b2s)] mixed Try.func25 rfl (by kernel_rfl) (by kernel_rfl)

/-- precentorref08.Items -/
def P30 (a0 : List PV) (a1 : List PV) (Φ : List RV → Prop) : Prop :=
 Ln a0 (Ln a1 (Fk ((a0.length : Int) != (a1.length : Int))
 (Φ [.pv (B false)])
 (SmA (.pv (.sl false a0)) ∧ SmA (.pv (.sl false a1)) ∧ Lo (fun (L2 : Int × Unit → Prop) (v1 : Int × Unit) =>
 Fk (decide (v1.1 < (a0.length : Int)))
 (Ix eItem a0 v1.1 fun x3 =>
 Ix eItem a1 v1.1 fun x4 =>
 ∃ x5, Cl 25 [eItem x3, eItem x4] [.pv (B x5)] ∧
 Fk (!x5)
 (Φ [.pv (B false)])
 (SmA (.pv (.sl false a0)) ∧ SmA (.pv (.sl false a1)) ∧ L2 (w64 (v1.1 + 1), ())))
 (Φ [.pv (B true)])) (0, ()))))
theorem t30 (a0 : List PV) (a1 : List PV) {Φ : List RV → Prop} (h : P30 a0 a1 Φ) : CtP Try.prog 30 [.sl false a0, .sl false a1] Φ :=
  ctP_by h 1000 [(1004, .fork [] []), (1997, .lens [0, 1]), (4003, .fork [] []), (4999, .loop [.k 0 (.pv (.sl false a0)), .k 1 (.pv (.sl false a1)), .c 5 (.int .i64)]), (6002, .ix Item eItem), (6006, .ix Item eItem), (6008, .call [.pv .bool]), (7001, .fork [] [])] mixed Try.func30 rfl (by kernel_rfl) (by kernel_rfl)

/-- precentorref09.Same -/
def P14 (a0 : Win) (a1 : Win) (Φ : List RV → Prop) : Prop :=
 ∃ x1, Cl 30 [.sl false (List.map eItem a0.l), .sl false (List.map eItem a1.l)] [.pv (B x1)] ∧
 Fk x1
 (Φ [.pv (B (a0.next == a1.next))])
 (Φ [.pv (B false)])
theorem t14 (a0 : Win) (a1 : Win) {Φ : List RV → Prop} (h : P14 a0 a1 Φ) : CtP Try.prog 14 [eWin a0, eWin a1] Φ :=
  ctP_by h 1000 [(1004, .call [.pv .bool]), (2001, .fork [] [])] mixed Try.func14 rfl (by kernel_rfl) (by kernel_rfl)

/-- precentorref09.New -/
def P16  (Φ : List RV → Prop) : Prop :=
 Φ [.pv (.agg [I 1, .sl true []])]
theorem t16  {Φ : List RV → Prop} (h : P16  Φ) : CtP Try.prog 16 [] Φ :=
  ctP_by h 1000 [] mixed Try.func16 rfl (by kernel_rfl) (by kernel_rfl)

/-- precentorref09.waits -/
def P33 (a0 : Win) (a1 : Int) (Φ : List RV → Prop) : Prop :=
 SmA (.pv (I a1)) ∧ SmA (.bp 65552 0) ∧ SmA (.pv (I a0.next)) ∧ SmA (.pv (.sl false (List.map eItem a0.l))) ∧ Lo (fun (L2 : Int × Unit × Unit → Prop) (v1 : Int × Unit × Unit) =>
 Ln (List.map eItem a0.l) (Fk (decide (v1.1 < ((List.map eItem a0.l).length : Int)))
 (Ix eItem (List.map eItem a0.l) v1.1 fun x3 =>
 Fk (x3.seq == a1)
 (Φ [.pv (B true)])
 (SmA (.pv (I a1)) ∧ SmA (.bp 65552 0) ∧ SmA (.pv (I a0.next)) ∧ SmA (.pv (.sl false (List.map eItem a0.l))) ∧ L2 (w64 (v1.1 + 1), (), ())))
 (Φ [.pv (B false)]))) (0, (), ())
theorem t33 (a0 : Win) (a1 : Int) {Φ : List RV → Prop} (h : P33 a0 a1 Φ) : CtP Try.prog 33 [eWin a0, I a1] Φ :=
  ctP_by h 1000 [(2004, .fork [] []), (2997, .lens [2]), (2999, .loop [.k 1 (.pv (I a1)), .k 2 (.bp 65552 0), .c 5 (.int .i64), .box 65552 true [.k (.pv (I a0.next)), .k (.pv (.sl false (List.map eItem a0.l)))]]), (4003, .ix Item eItem), (4007, .fork [] [])] mixed Try.func33 rfl (by kernel_rfl) (by kernel_rfl)

/-- precentorref09.Put -/
def P18 (a0 : Win) (a1 : Item) (a2 : Int) (Φ : List RV → Prop) : Prop :=
 ∃ x1, Cl 26 [eItem a1] [.pv (B x1)] ∧
 Ln (List.map eItem a0.l) (Fk (!x1)
 (Φ [.pv (eWin a0), .pv (B false)])
 (Fk (decide (a1.seq < a0.next))
 (Φ [.pv (eWin a0), .pv (B false)])
 (Fk (decide (a2 < a1.seq))
 (Φ [.pv (eWin a0), .pv (B false)])
 (Fk (decide (64 ≤ ((List.map eItem a0.l).length : Int)))
 (Φ [.pv (eWin a0), .pv (B false)])
 (∃ x2, Cl 33 [eWin a0, I a1.seq] [.pv (B x2)] ∧
 Fk x2
 (Φ [.pv (eWin a0), .pv (B false)])
 (SmA (.bp 65560 0) ∧ SmA (.bp 65568 0) ∧ SmA (.bp 65584 0) ∧ SmA (.pv (I a0.next)) ∧ SmA (.pv (.sl false (List.map eItem a0.l))) ∧ SmA (.pv (I a1.kind)) ∧ SmA (.pv (I a1.seq)) ∧ SmA (.pv (I a1.epoch)) ∧ SmA (.pv (I a1.index)) ∧ SmA (.pv (I a1.total)) ∧ SmA (.pv (I a1.count)) ∧ SmA (.pv (.sl false (List.map I a1.l))) ∧ SmA (.pv (.sl false (List.map U8 a1.body))) ∧ SmA (.pv (I 0)) ∧ SmA (.pv (.sl true [])) ∧ Lo (fun (L4 : List PV × Bool × Int × Unit × Unit × Unit × Unit → Prop) (v3 : List PV × Bool × Int × Unit × Unit × Unit × Unit) =>
 Fk (decide (v3.2.2.1 < ((List.map eItem a0.l).length : Int)))
 (Jn (fun v5 : List PV × Bool × Int × Unit × Unit × Unit × Unit =>
 Ix eItem (List.map eItem a0.l) v5.2.2.1 fun x7 =>
 Sz v5.1.length 1 96 (
 SmA (.bp 65560 0) ∧ SmA (.bp 65568 0) ∧ SmA (.bp 65584 0) ∧ SmA (.pv (I a0.next)) ∧ SmA (.pv (.sl false (List.map eItem a0.l))) ∧ SmA (.pv (I a1.kind)) ∧ SmA (.pv (I a1.seq)) ∧ SmA (.pv (I a1.epoch)) ∧ SmA (.pv (I a1.index)) ∧ SmA (.pv (I a1.total)) ∧ SmA (.pv (I a1.count)) ∧ SmA (.pv (.sl false (List.map I a1.l))) ∧ SmA (.pv (.sl false (List.map U8 a1.body))) ∧ SmA (.pv (I 0)) ∧ SmA (.pv (.sl true [])) ∧ L4 (v5.1 ++ [eItem x7], v5.2.1, w64 (v5.2.2.1 + 1), (), (), (), ()))) (fun j6 =>
 (fun j6 : List PV × Bool × Int × Unit × Unit × Unit × Unit → Prop =>
 Fk (!v3.2.1)
 (Ix eItem (List.map eItem a0.l) v3.2.2.1 fun x8 =>
 Fk (decide (a1.seq < x8.seq))
 (Sz v3.1.length 1 96 (
 j6 (v3.1 ++ [eItem a1], true, v3.2.2.1, (), (), (), ())))
 (j6 (v3.1, v3.2.1, v3.2.2.1, (), (), (), ())))
 (j6 (v3.1, v3.2.1, v3.2.2.1, (), (), (), ()))) (fun v => SmA (.bp 65560 0) ∧ SmA (.bp 65568 0) ∧ SmA (.bp 65584 0) ∧ SmA (.pv (I a0.next)) ∧ SmA (.pv (.sl false (List.map eItem a0.l))) ∧ SmA (.pv (I a1.kind)) ∧ SmA (.pv (I a1.seq)) ∧ SmA (.pv (I a1.epoch)) ∧ SmA (.pv (I a1.index)) ∧ SmA (.pv (I a1.total)) ∧ SmA (.pv (I a1.count)) ∧ SmA (.pv (.sl false (List.map I a1.l))) ∧ SmA (.pv (.sl false (List.map U8 a1.body))) ∧ SmA (.pv (I 0)) ∧ SmA (.pv (.sl true [])) ∧ j6 v)))
 (Jn (fun v9 : List PV × Unit × Unit × Unit =>
 Φ [.pv (.agg [I a0.next, .sl false v9.1]), .pv (B true)]) (fun j10 =>
 (fun j10 : List PV × Unit × Unit × Unit → Prop =>
 Fk (!v3.2.1)
 (Sz v3.1.length 1 96 (
 j10 (v3.1 ++ [eItem a1], (), (), ())))
 (j10 (v3.1, (), (), ()))) (fun v => SmA (.bp 65560 0) ∧ SmA (.bp 65584 0) ∧ SmA (.pv (I a0.next)) ∧ SmA (.pv (.sl false (List.map eItem a0.l))) ∧ SmA (.pv (I 0)) ∧ SmA (.pv (.sl true [])) ∧ j10 v)))) ([], false, 0, (), (), (), ())))))))
theorem t18 (a0 : Win) (a1 : Item) (a2 : Int) {Φ : List RV → Prop} (h : P18 a0 a1 a2 Φ) : CtP Try.prog 18 [eWin a0, eItem a1, I a2] Φ :=
  ctP_by h 1000 [(1001, .call [.pv .bool]), (2002, .fork [(2015, .off), (2021, .off), (2026, .off), (2009, .off)] []), (2009, .fork [(2021, .off), (2026, .off), (2015, .off)] []), (2015, .fork [(2026, .off), (2021, .off)] []), (2021, .fork [(2026, .off)] []), (2025, .call [.pv .bool]), (2026, .fork [] []), (2997, .lens [3]), (7004, .fork [] []), (7999, .loop [.k 3 (.bp 65560 0), .k 4 (.bp 65568 0), .k 6 (.bp 65584 0), .r 9 28 8, .c 10 .bool, .c 11 (.int .i64), .box 65560 true [.k (.pv (I a0.next)), .k (.pv (.sl false (List.map eItem a0.l)))], .box 65568 true [.k (.pv (I a1.kind)), .k (.pv (I a1.seq)), .k (.pv (I a1.epoch)), .k (.pv (I a1.index)), .k (.pv (I a1.total)), .k (.pv (I a1.count)), .k (.pv (.sl false (List.map I a1.l))), .k (.pv (.sl false (List.map U8 a1.body)))], .box 65584 true [.k (.pv (I 0)), .k (.pv (.sl true []))]]), (9002, .fork [] [(9012, .off)]), (9006, .ix Item eItem), (9012, .fork [] []), (10003, .app false false), (12004, .ix Item eItem), (12007, .app false false), (12998, .join [.k 3 (.bp 65560 0), .k 4 (.bp 65568 0), .k 6 (.bp 65584 0), .r 9 28 8, .c 10 .bool, .c 11 (.int .i64), .box 65560 true [.k (.pv (I a0.next)), .k (.pv (.sl false (List.map eItem a0.l)))], .box 65568 true [.k (.pv (I a1.kind)), .k (.pv (I a1.seq)), .k (.pv (I a1.epoch)), .k (.pv (I a1.index)), .k (.pv (I a1.total)), .k (.pv (I a1.count)), .k (.pv (.sl false (List.map I a1.l))), .k (.pv (.sl false (List.map U8 a1.body)))], .box 65584 true [.k (.pv (I 0)), .k (.pv (.sl true []))]]), (13001, .fork [] []), (14003, .app false false), (15998, .join [.k 3 (.bp 65560 0), .k 6 (.bp 65584 0), .r 9 28 8, .box 65560 true [.k (.pv (I a0.next)), .k (.pv (.sl false (List.map eItem a0.l)))], .box 65584 true [.k (.pv (I 0)), .k (.pv (.sl true []))]])] mixed Try.func18 rfl (by kernel_rfl) (by kernel_rfl)

/-- precentorref09.Peek -/
def P20 (a0 : Win) (Φ : List RV → Prop) : Prop :=
 SmA (.bp 65544 0) ∧ SmA (.bp 65552 0) ∧ SmA (.pv (I a0.next)) ∧ SmA (.pv (.sl false (List.map eItem a0.l))) ∧ SmA (.pv (I 0)) ∧ SmA (.pv (I 0)) ∧ SmA (.pv (I 0)) ∧ SmA (.pv (I 0)) ∧ SmA (.pv (I 0)) ∧ SmA (.pv (I 0)) ∧ SmA (.pv (.sl true [])) ∧ SmA (.pv (.sl true [])) ∧ Lo (fun (L2 : Int × Unit × Unit × Unit → Prop) (v1 : Int × Unit × Unit × Unit) =>
 Ln (List.map eItem a0.l) (Fk (decide (v1.1 < ((List.map eItem a0.l).length : Int)))
 (Ix eItem (List.map eItem a0.l) v1.1 fun x3 =>
 Fk (x3.seq == a0.next)
 (Ix eItem (List.map eItem a0.l) v1.1 fun x4 =>
 Φ [.pv (eItem x4), .pv (B true)])
 (SmA (.bp 65544 0) ∧ SmA (.bp 65552 0) ∧ SmA (.pv (I a0.next)) ∧ SmA (.pv (.sl false (List.map eItem a0.l))) ∧ SmA (.pv (I 0)) ∧ SmA (.pv (I 0)) ∧ SmA (.pv (I 0)) ∧ SmA (.pv (I 0)) ∧ SmA (.pv (I 0)) ∧ SmA (.pv (I 0)) ∧ SmA (.pv (.sl true [])) ∧ SmA (.pv (.sl true [])) ∧ L2 (w64 (v1.1 + 1), (), (), ())))
 (Φ [.pv (.agg [I 0, I 0, I 0, I 0, I 0, I 0, .sl true [], .sl true []]), .pv (B false)]))) (0, (), (), ())
theorem t20 (a0 : Win) {Φ : List RV → Prop} (h : P20 a0 Φ) : CtP Try.prog 20 [eWin a0] Φ :=
  ctP_by h 1000 [(2004, .fork [] []), (2997, .lens [1]), (2999, .loop [.k 1 (.bp 65544 0), .k 2 (.bp 65552 0), .c 4 (.int .i64), .box 65544 true [.k (.pv (I a0.next)), .k (.pv (.sl false (List.map eItem a0.l)))], .box 65552 true [.k (.pv (I 0)), .k (.pv (I 0)), .k (.pv (I 0)), .k (.pv (I 0)), .k (.pv (I 0)), .k (.pv (I 0)), .k (.pv (.sl true [])), .k (.pv (.sl true []))]]), (4003, .ix Item eItem), (4008, .fork [] []), (5003, .ix Item eItem)] mixed Try.func20 rfl (by kernel_rfl) (by kernel_rfl)

/-- precentorref09.Take -/
def P22 (a0 : Win) (Φ : List RV → Prop) : Prop :=
 ∃ x1 x2, Cl 20 [eWin a0] [.pv (eItem x1), .pv (B x2)] ∧
 Fk (!x2)
 (Φ [.pv (.agg [I 0, I 0, I 0, I 0, I 0, I 0, .sl true [], .sl true []]), .pv (eWin a0), .pv (B false)])
 (SmA (.bp 65544 0) ∧ SmA (.bp 65552 0) ∧ SmA (.bp 65560 0) ∧ SmA (.bp 131112 0) ∧ SmA (.pv (I a0.next)) ∧ SmA (.pv (.sl false (List.map eItem a0.l))) ∧ SmA (.pv (I 0)) ∧ SmA (.pv (I 0)) ∧ SmA (.pv (I 0)) ∧ SmA (.pv (I 0)) ∧ SmA (.pv (I 0)) ∧ SmA (.pv (I 0)) ∧ SmA (.pv (.sl true [])) ∧ SmA (.pv (.sl true [])) ∧ SmA (.pv (I 0)) ∧ SmA (.pv (.sl true [])) ∧ Lo (fun (L4 : List PV × Int × Unit × Unit × Unit × (Int × Int × Int × Int × Int × Int × (List PV) × (List PV) × Unit) × Unit → Prop) (v3 : List PV × Int × Unit × Unit × Unit × (Int × Int × Int × Int × Int × Int × (List PV) × (List PV) × Unit) × Unit) =>
 Ln (List.map eItem a0.l) (Fk (decide (v3.2.1 < ((List.map eItem a0.l).length : Int)))
 (Jn (fun v5 : List PV × Int × Unit × Unit × Unit × (Int × Int × Int × Int × Int × Int × (List PV) × (List PV) × Unit) × Unit =>
 SmA (.bp 65544 0) ∧ SmA (.bp 65552 0) ∧ SmA (.bp 65560 0) ∧ SmA (.bp 131112 0) ∧ SmA (.pv (I a0.next)) ∧ SmA (.pv (.sl false (List.map eItem a0.l))) ∧ SmA (.pv (I 0)) ∧ SmA (.pv (I 0)) ∧ SmA (.pv (I 0)) ∧ SmA (.pv (I 0)) ∧ SmA (.pv (I 0)) ∧ SmA (.pv (I 0)) ∧ SmA (.pv (.sl true [])) ∧ SmA (.pv (.sl true [])) ∧ SmA (.pv (I 0)) ∧ SmA (.pv (.sl true [])) ∧ L4 (v5.1, w64 (v5.2.1 + 1), (), (), (), (v5.2.2.2.2.2.1.1, v5.2.2.2.2.2.1.2.1, v5.2.2.2.2.2.1.2.2.1, v5.2.2.2.2.2.1.2.2.2.1, v5.2.2.2.2.2.1.2.2.2.2.1, v5.2.2.2.2.2.1.2.2.2.2.2.1, v5.2.2.2.2.2.1.2.2.2.2.2.2.1, v5.2.2.2.2.2.1.2.2.2.2.2.2.2.1, ()), ())) (fun j6 =>
 (fun j6 : List PV × Int × Unit × Unit × Unit × (Int × Int × Int × Int × Int × Int × (List PV) × (List PV) × Unit) × Unit → Prop =>
 Ix eItem (List.map eItem a0.l) v3.2.1 fun x7 =>
 Fk (x7.seq != a0.next)
 (Ix eItem (List.map eItem a0.l) v3.2.1 fun x8 =>
 Sz v3.1.length 1 96 (
 j6 (v3.1 ++ [eItem x8], v3.2.1, (), (), (), (v3.2.2.2.2.2.1.1, v3.2.2.2.2.2.1.2.1, v3.2.2.2.2.2.1.2.2.1, v3.2.2.2.2.2.1.2.2.2.1, v3.2.2.2.2.2.1.2.2.2.2.1, v3.2.2.2.2.2.1.2.2.2.2.2.1, v3.2.2.2.2.2.1.2.2.2.2.2.2.1, v3.2.2.2.2.2.1.2.2.2.2.2.2.2.1, ()), ())))
 (j6 (v3.1, v3.2.1, (), (), (), (v3.2.2.2.2.2.1.1, v3.2.2.2.2.2.1.2.1, v3.2.2.2.2.2.1.2.2.1, v3.2.2.2.2.2.1.2.2.2.1, v3.2.2.2.2.2.1.2.2.2.2.1, v3.2.2.2.2.2.1.2.2.2.2.2.1, v3.2.2.2.2.2.1.2.2.2.2.2.2.1, v3.2.2.2.2.2.1.2.2.2.2.2.2.2.1, ()), ()))) (fun v => SmA (.bp 65544 0) ∧ SmA (.bp 65552 0) ∧ SmA (.bp 65560 0) ∧ SmA (.bp 131112 0) ∧ SmA (.pv (I a0.next)) ∧ SmA (.pv (.sl false (List.map eItem a0.l))) ∧ SmA (.pv (I 0)) ∧ SmA (.pv (I 0)) ∧ SmA (.pv (I 0)) ∧ SmA (.pv (I 0)) ∧ SmA (.pv (I 0)) ∧ SmA (.pv (I 0)) ∧ SmA (.pv (.sl true [])) ∧ SmA (.pv (.sl true [])) ∧ SmA (.pv (I 0)) ∧ SmA (.pv (.sl true [])) ∧ j6 v)))
 (Φ [.pv (.agg [I v3.2.2.2.2.2.1.1, I v3.2.2.2.2.2.1.2.1, I v3.2.2.2.2.2.1.2.2.1, I v3.2.2.2.2.2.1.2.2.2.1, I v3.2.2.2.2.2.1.2.2.2.2.1, I v3.2.2.2.2.2.1.2.2.2.2.2.1, .sl false v3.2.2.2.2.2.1.2.2.2.2.2.2.1, .sl false v3.2.2.2.2.2.1.2.2.2.2.2.2.2.1]), .pv (.agg [I (w64 (a0.next + 1)), .sl false v3.1]), .pv (B true)]))) ([], 0, (), (), (), (x1.kind, x1.seq, x1.epoch, x1.index, x1.total, x1.count, List.map I x1.l, List.map U8 x1.body, ()), ()))
theorem t22 (a0 : Win) {Φ : List RV → Prop} (h : P22 a0 Φ) : CtP Try.prog 22 [eWin a0] Φ :=
  ctP_by h 1000 [(1001, .call [.pv (.ty Item eItem), .pv .bool]), (2001, .fork [] []), (6004, .fork [] []), (6997, .lens [1]), (6999, .loop [.k 1 (.bp 65544 0), .k 2 (.bp 65552 0), .k 3 (.bp 65560 0), .k 5 (.bp 131112 0), .r 7 28 8, .c 8 (.int .i64), .box 65544 true [.k (.pv (I a0.next)), .k (.pv (.sl false (List.map eItem a0.l)))], .box 65552 true [.k (.pv (I 0)), .k (.pv (I 0)), .k (.pv (I 0)), .k (.pv (I 0)), .k (.pv (I 0)), .k (.pv (I 0)), .k (.pv (.sl true [])), .k (.pv (.sl true []))], .box 65560 true [.k (.pv (I 0)), .k (.pv (.sl true []))], .box 131112 true [.h (.int .i64), .h (.int .i64), .h (.int .i64), .h (.int .i64), .h (.int .i64), .h (.int .i64), .h .sl, .h .sl]]), (7998, .join [.k 1 (.bp 65544 0), .k 2 (.bp 65552 0), .k 3 (.bp 65560 0), .k 5 (.bp 131112 0), .r 7 28 8, .c 8 (.int .i64), .box 65544 true [.k (.pv (I a0.next)), .k (.pv (.sl false (List.map eItem a0.l)))], .box 65552 true [.k (.pv (I 0)), .k (.pv (I 0)), .k (.pv (I 0)), .k (.pv (I 0)), .k (.pv (I 0)), .k (.pv (I 0)), .k (.pv (.sl true [])), .k (.pv (.sl true []))], .box 65560 true [.k (.pv (I 0)), .k (.pv (.sl true []))], .box 131112 true [.h (.int .i64), .h (.int .i64), .h (.int .i64), .h (.int .i64), .h (.int .i64), .h (.int .i64), .h .sl, .h .sl]]), (8003, .ix Item eItem), (8008, .fork [] []), (9004, .ix Item eItem), (9007, .app false false)] mixed Try.func22 rfl (by kernel_rfl) (by kernel_rfl)

/-- precentorref09.Gap -/
def P24 (a0 : Win) (a1 : Int) (Φ : List RV → Prop) : Prop :=
 Jn (fun v1 : Int × Unit × Unit =>
 SmA (.bp 65552 0) ∧ SmA (.pv (I a0.next)) ∧ SmA (.pv (.sl false (List.map eItem a0.l))) ∧ Lo (fun (L4 : Int × Int × Unit × Unit → Prop) (v3 : Int × Int × Unit × Unit) =>
 ∃ x5, Cl 33 [eWin a0, I v3.2.1] [.pv (B x5)] ∧
 Fk x5
 (SmA (.bp 65552 0) ∧ SmA (.pv (I a0.next)) ∧ SmA (.pv (.sl false (List.map eItem a0.l))) ∧ L4 (v3.1, w64 (v3.2.1 + 1), (), ()))
 (Fk (decide (v3.1 < v3.2.1))
 (Φ [.pv (I 0), .pv (I 0)])
 (Jn (fun v6 : Int × Int × Unit =>
 Φ [.pv (I v6.1), .pv (I v6.2.1)]) (fun j7 =>
 SmA (.bp 65552 0) ∧ SmA (.pv (I a0.next)) ∧ SmA (.pv (.sl false (List.map eItem a0.l))) ∧ Lo (fun (L9 : Int × Int × Int × Unit × Unit → Prop) (v8 : Int × Int × Int × Unit × Unit) =>
 Fk (decide (v8.2.2.1 < 64))
 (Fk (decide ((w64 (v8.2.1 + v8.2.2.1)) ≤ v8.1))
 (∃ x10, Cl 33 [eWin a0, I (w64 (v8.2.1 + v8.2.2.1))] [.pv (B x10)] ∧
 Fk (!x10)
 (SmA (.bp 65552 0) ∧ SmA (.pv (I a0.next)) ∧ SmA (.pv (.sl false (List.map eItem a0.l))) ∧ L9 (v8.1, v8.2.1, w64 (v8.2.2.1 + 1), (), ()))
 (j7 (v8.2.1, v8.2.2.1, ())))
 (j7 (v8.2.1, v8.2.2.1, ())))
 (j7 (v8.2.1, v8.2.2.1, ()))) (v3.1, v3.2.1, 0, (), ()))))) (v1.1, a0.next, (), ())) (fun j2 =>
 (fun j2 : Int × Unit × Unit → Prop =>
 Fk (decide (4611686018427387904 < a1))
 (j2 (4611686018427387904, (), ()))
 (j2 (a1, (), ()))) (fun v => SmA (.bp 65552 0) ∧ SmA (.pv (I a0.next)) ∧ SmA (.pv (.sl false (List.map eItem a0.l))) ∧ j2 v))
theorem t24 (a0 : Win) (a1 : Int) {Φ : List RV → Prop} (h : P24 a0 a1 Φ) : CtP Try.prog 24 [eWin a0, I a1] Φ :=
  ctP_by h 1000 [(1001, .fork [] []), (3998, .join [.c 1 (.int .i64), .k 2 (.bp 65552 0), .box 65552 true [.k (.pv (I a0.next)), .k (.pv (.sl false (List.map eItem a0.l)))]]), (4002, .callf [.pv .bool] [] []), (4999, .loop [.c 1 (.int .i64), .k 2 (.bp 65552 0), .c 6 (.int .i64), .box 65552 true [.k (.pv (I a0.next)), .k (.pv (.sl false (List.map eItem a0.l)))]]), (6002, .fork [] []), (9002, .fork [] [(9009, .off), (9016, .off)]), (9009, .fork [] [(9016, .off)]), (9014, .call [.pv .bool]), (9016, .fork [] []), (9999, .loop [.c 1 (.int .i64), .k 2 (.bp 65552 0), .c 6 (.int .i64), .c 7 (.int .i64), .box 65552 true [.k (.pv (I a0.next)), .k (.pv (.sl false (List.map eItem a0.l)))]]), (11998, .join [.c 6 (.int .i64), .c 7 (.int .i64)])] mixed Try.func24 rfl (by kernel_rfl) (by kernel_rfl)

/-- precentorlaw09.WinTells -/
def P3 (a0 : WinTellsIn) (Φ : List RV → Prop) : Prop :=
 ∃ x1, Cl 8 [] [.pv (B x1)] ∧
 ∃ x2, Cl 9 [.sl false (List.map eItem a0.w.l)] [.pv (B x2)] ∧
 Fk (!x2)
 (Φ [.pv (B x1)])
 (∃ x3, Cl 9 [.sl false (List.map eItem a0.o.l)] [.pv (B x3)] ∧
 Fk (!x3)
 (Φ [.pv (B x1)])
 (∃ x4, Cl 10 [eItem a0.it] [.pv (B x4)] ∧
 Fk (!x4)
 (Φ [.pv (B x1)])
 (∃ x5, Cl 11 [eWin a0.w] [.pv (B x5)] ∧
 ∃ x6, Cl 12 [eWin a0.w] [.pv (B x6)] ∧
 Fk (x6 != x5)
 (Φ [.pv (B false)])
 (∃ x7, Cl 13 [eWin a0.w, eWin a0.o] [.pv (B x7)] ∧
 ∃ x8, Cl 14 [eWin a0.w, eWin a0.o] [.pv (B x8)] ∧
 Fk (x7 != x8)
 (Φ [.pv (B false)])
 (∃ x9, Cl 15 [] [.pv (eWin x9)] ∧
 ∃ x10, Cl 16 [] [.pv (eWin x10)] ∧
 ∃ x11, Cl 14 [eWin x9, eWin x10] [.pv (B x11)] ∧
 Fk (!x11)
 (Φ [.pv (B false)])
 (Fk (!x5)
 (Φ [.pv (B x1)])
 (∃ x12 x13, Cl 17 [eWin a0.w, eItem a0.it, I a0.last] [.pv (eWin x12), .pv (B x13)] ∧
 ∃ x14 x15, Cl 18 [eWin a0.w, eItem a0.it, I a0.last] [.pv (eWin x14), .pv (B x15)] ∧
 ∃ x16 x17, Cl 19 [eWin a0.w] [.pv (eItem x16), .pv (B x17)] ∧
 ∃ x18 x19, Cl 20 [eWin a0.w] [.pv (eItem x18), .pv (B x19)] ∧
 ∃ x20 x21 x22, Cl 21 [eWin a0.w] [.pv (eItem x20), .pv (eWin x21), .pv (B x22)] ∧
 ∃ x23 x24 x25, Cl 22 [eWin a0.w] [.pv (eItem x23), .pv (eWin x24), .pv (B x25)] ∧
 ∃ x26 x27, Cl 23 [eWin a0.w, I a0.last] [.pv (I x26), .pv (I x27)] ∧
 ∃ x28 x29, Cl 24 [eWin a0.w, I a0.last] [.pv (I x28), .pv (I x29)] ∧
 Fk x1
 (∃ x30, Cl 14 [eWin x12, eWin x14] [.pv (B x30)] ∧
 Fk x30
 (Fk (x13 == x15)
 (∃ x31, Cl 25 [eItem x16, eItem x18] [.pv (B x31)] ∧
 Fk x31
 (Fk (x17 == x19)
 (∃ x32, Cl 25 [eItem x20, eItem x23] [.pv (B x32)] ∧
 Fk x32
 (∃ x33, Cl 14 [eWin x21, eWin x24] [.pv (B x33)] ∧
 Fk x33
 (Fk (x22 == x25)
 (Fk (x26 == x28)
 (Φ [.pv (B (x27 == x29))])
 (Φ [.pv (B false)]))
 (Φ [.pv (B false)]))
 (Φ [.pv (B false)]))
 (Φ [.pv (B false)]))
 (Φ [.pv (B false)]))
 (Φ [.pv (B false)]))
 (Φ [.pv (B false)]))
 (Φ [.pv (B false)]))
 (Φ [.pv (B false)]))))))))
theorem t3 (a0 : WinTellsIn) {Φ : List RV → Prop} (h : P3 a0 Φ) : CtP Try.prog 3 [eWinTellsIn a0] Φ :=
  ctP_by h 1000 [(5000, .call [.pv .bool]), (6002, .call [.pv .bool]), (6004, .fork [(6014, .off), (6010, .off)] []), (6007, .call [.pv .bool]), (6010, .fork [(6014, .off)] []), (6012, .call [.pv .bool]), (6014, .fork [] []), (8001, .call [.pv .bool]), (9001, .call [.pv .bool]), (9004, .fork [(9018, .off), (9013, .off)] []), (9007, .call [.pv .bool]), (9010, .call [.pv .bool]), (9013, .fork [(9018, .off)] []), (9014, .call [.pv (.ty Win eWin)]), (9015, .call [.pv (.ty Win eWin)]), (9016, .call [.pv .bool]), (9018, .fork [] []), (11001, .fork [] []), (13003, .call [.pv (.ty Win eWin), .pv .bool]), (14003, .call [.pv (.ty Win eWin), .pv .bool]), (15001, .call [.pv (.ty Item eItem), .pv .bool]), (16001, .call [.pv (.ty Item eItem), .pv .bool]), (17001, .call [.pv (.ty Item eItem), .pv (.ty Win eWin), .pv .bool]), (18001, .call [.pv (.ty Item eItem), .pv (.ty Win eWin), .pv .bool]), (19002, .call [.pv (.int .i64), .pv (.int .i64)]), (20002, .call [.pv (.int .i64), .pv (.int .i64)]), (21001, .fork [] [(21006, .off), (21011, .off), (21016, .off), (21021, .off), (21026, .off), (21031, .off), (21036, .off), (21041, .off)]), (21004, .call [.pv .bool]), (21006, .fork [] [(21011, .off), (21016, .off), (21021, .off), (21026, .off), (21031, .off), (21036, .off), (21041, .off)]), (21011, .fork [] [(21016, .off), (21021, .off), (21026, .off), (21031, .off), (21036, .off), (21041, .off)]), (21014, .call [.pv .bool]), (21016, .fork [] [(21021, .off), (21026, .off), (21031, .off), (21036, .off), (21041, .off)]), (21021, .fork [] [(21026, .off), (21031, .off), (21036, .off), (21041, .off)]), (21024, .call [.pv .bool]), (21026, .fork [] [(21031, .off), (21036, .off), (21041, .off)]), (21029, .call [.pv .bool]), (21031, .fork [] [(21036, .off), (21041, .off)]), (21036, .fork [] [(21041, .off)]), (21041, .fork [] [])] mixed Try.func3 rfl (by kernel_rfl) (by kernel_rfl)

/-- precentorlaw09.WinOrder -/
def P5 (a0 : List PV) (a1 : UInt8) (Φ : List RV → Prop) : Prop :=
 ∃ x1, Cl 8 [] [.pv (B x1)] ∧
 Ln a0 (Fk (decide (100 < (a0.length : Int)))
 (Φ [.pv (B x1)])
 (∃ x2, Cl 15 [] [.pv (eWin x2)] ∧
 SmA (.pv (.sl false a0)) ∧ SmA (.pv (U8 a1)) ∧ SmA (.bp 262192 0) ∧ SmA (.rp 327736 0 0) ∧ Lo (fun (L4 : Bool × Int × List PV × (Int × (List PV) × Unit) × Unit → Prop) (v3 : Bool × Int × List PV × (Int × (List PV) × Unit) × Unit) =>
 Fk (decide (v3.2.1 < (a0.length : Int)))
 (Ix U8 a0 v3.2.1 fun x5 =>
 Nz 30 (
 ∃ x6 x7, Cl 17 [.agg [I v3.2.2.2.1.1, .sl false v3.2.2.2.1.2.1], .agg [I 5, I (w64 (1 + (Int.tmod (w64 (x5.toNat : Int)) 30))), I 0, I 0, I 0, I v3.2.1, .sl true [], .sl true []], I 64] [.pv (eWin x6), .pv (B x7)] ∧
 Rx (w64 (1 + (Int.tmod (w64 (x5.toNat : Int)) 30))) 31 (
 Ld I v3.2.2.1 ((w64 (1 + (Int.tmod (w64 (x5.toNat : Int)) 30))).toNat) fun x8 =>
 Fk (x7 != (x8 == 0))
 (Φ [.pv (B false)])
 (Jn (fun v9 : Bool × Int × List PV × (Int × (List PV) × Unit) × (Int × (List PV) × Unit) × Unit =>
 SmA (.pv (.sl false a0)) ∧ SmA (.pv (U8 a1)) ∧ SmA (.bp 262192 0) ∧ SmA (.rp 327736 0 0) ∧ L4 (v9.1, w64 (v9.2.1 + 1), v9.2.2.1, (v9.2.2.2.2.1.1, v9.2.2.2.2.1.2.1, ()), ())) (fun j10 =>
 (fun j10 : Bool × Int × List PV × (Int × (List PV) × Unit) × (Int × (List PV) × Unit) × Unit → Prop =>
 Fk x7
 (Rx (w64 (1 + (Int.tmod (w64 (x5.toNat : Int)) 30))) 31 (
 Ld I v3.2.2.1 ((w64 (1 + (Int.tmod (w64 (x5.toNat : Int)) 30))).toNat) fun x11 =>
 j10 (v3.1, v3.2.1, v3.2.2.1.set ((w64 (1 + (Int.tmod (w64 (x5.toNat : Int)) 30))).toNat) (I (w64 (v3.2.1 + 1))), (v3.2.2.2.1.1, v3.2.2.2.1.2.1, ()), (x6.next, List.map eItem x6.l, ()), ())))
 (j10 (v3.1, v3.2.1, v3.2.2.1, (v3.2.2.2.1.1, v3.2.2.2.1.2.1, ()), (x6.next, List.map eItem x6.l, ()), ()))) (fun v => SmA (.pv (.sl false a0)) ∧ SmA (.pv (U8 a1)) ∧ SmA (.bp 262192 0) ∧ SmA (.rp 327736 0 0) ∧ SmA (.bp 655440 0) ∧ j10 v))))))
 (Nz 40 (
 ∃ x12 x13, Cl 23 [.agg [I v3.2.2.2.1.1, .sl false v3.2.2.2.1.2.1], I (Int.tmod (w64 (a1.toNat : Int)) 40)] [.pv (I x12), .pv (I x13)] ∧
 Jn (fun v14 : Bool × Int × Int × Int × List PV × (Int × (List PV) × Unit) × Unit =>
 Fk (v14.2.1 != v14.2.2.2.1)
 (Φ [.pv (B false)])
 (Fk ((v14.2.2.2.1 == 0) != (v14.2.2.1 == 0))
 (Φ [.pv (B false)])
 (SmA (.bp 262192 0) ∧ SmA (.rp 327736 0 0) ∧ SmA (.pv (I (Int.tmod (w64 (a1.toNat : Int)) 40))) ∧ Lo (fun (L17 : Bool × Int × Int × Int × List PV × (Int × (List PV) × Unit) × Unit → Prop) (v16 : Bool × Int × Int × Int × List PV × (Int × (List PV) × Unit) × Unit) =>
 Fk (decide (v16.2.2.2.1 < (w64 (v16.2.1 + v16.2.2.1))))
 (Jn (fun v18 : Bool × Int × Int × Int × List PV × (Int × (List PV) × Unit) × Unit =>
 SmA (.bp 262192 0) ∧ SmA (.rp 327736 0 0) ∧ SmA (.pv (I (Int.tmod (w64 (a1.toNat : Int)) 40))) ∧ L17 (v18.1, v18.2.1, v18.2.2.1, w64 (v18.2.2.2.1 + 1), v18.2.2.2.2.1, (v18.2.2.2.2.2.1.1, v18.2.2.2.2.2.1.2.1, ()), ())) (fun j19 =>
 (fun j19 : Bool × Int × Int × Int × List PV × (Int × (List PV) × Unit) × Unit → Prop =>
 Fk (decide (v16.2.2.2.1 < 1))
 (Φ [.pv (B false)])
 (Fk (decide ((Int.tmod (w64 (a1.toNat : Int)) 40) < v16.2.2.2.1))
 (Φ [.pv (B false)])
 (Fk (decide (v16.2.2.2.1 ≤ 30))
 (Rx v16.2.2.2.1 31 (
 Ld I v16.2.2.2.2.1 v16.2.2.2.1.toNat fun x20 =>
 Fk (x20 != 0)
 (Φ [.pv (B false)])
 (j19 (v16.1, v16.2.1, v16.2.2.1, v16.2.2.2.1, v16.2.2.2.2.1, (v16.2.2.2.2.2.1.1, v16.2.2.2.2.2.1.2.1, ()), ()))))
 (j19 (v16.1, v16.2.1, v16.2.2.1, v16.2.2.2.1, v16.2.2.2.2.1, (v16.2.2.2.2.2.1.1, v16.2.2.2.2.2.1.2.1, ()), ()))))) (fun v => SmA (.bp 262192 0) ∧ SmA (.rp 327736 0 0) ∧ SmA (.pv (I (Int.tmod (w64 (a1.toNat : Int)) 40))) ∧ j19 v)))
 (SmA (.bp 262192 0) ∧ SmA (.rp 327736 0 0) ∧ Lo (fun (L22 : Bool × Int × List PV × (Int × (List PV) × Unit) × Unit → Prop) (v21 : Bool × Int × List PV × (Int × (List PV) × Unit) × Unit) =>
 Fk (decide (v21.2.1 ≤ 31))
 (Jn (fun v23 : Bool × Int × List PV × (Int × (List PV) × Unit) × Unit =>
 SmA (.bp 262192 0) ∧ SmA (.rp 327736 0 0) ∧ L22 (v23.1, w64 (v23.2.1 + 1), v23.2.2.1, (v23.2.2.2.1.1, v23.2.2.2.1.2.1, ()), ())) (fun j24 =>
 (fun j24 : Bool × Int × List PV × (Int × (List PV) × Unit) × Unit → Prop =>
 ∃ x25 x26 x27, Cl 21 [.agg [I v21.2.2.2.1.1, .sl false v21.2.2.2.1.2.1]] [.pv (eItem x25), .pv (eWin x26), .pv (B x27)] ∧
 Fk (decide (v21.2.1 ≤ 30))
 (Rx v21.2.1 31 (
 Ld I v21.2.2.1 v21.2.1.toNat fun x28 =>
 Fk (x27 != (x28 != 0))
 (Φ [.pv (B false)])
 (Fk (!x27)
 (Φ [.pv (B v21.1)])
 (Fk (x25.seq != v21.2.1)
 (Φ [.pv (B false)])
 (Rx v21.2.1 31 (
 Ld I v21.2.2.1 v21.2.1.toNat fun x29 =>
 Fk (x25.count != (w64 (x29 - 1)))
 (Φ [.pv (B false)])
 (j24 (v21.1, v21.2.1, v21.2.2.1, (x26.next, List.map eItem x26.l, ()), ()))))))))
 (Fk (x27 != false)
 (Φ [.pv (B false)])
 (Fk (!x27)
 (Φ [.pv (B v21.1)])
 (Fk (x25.seq != v21.2.1)
 (Φ [.pv (B false)])
 (Rx v21.2.1 31 (
 Ld I v21.2.2.1 v21.2.1.toNat fun x30 =>
 Fk (x25.count != (w64 (x30 - 1)))
 (Φ [.pv (B false)])
 (j24 (v21.1, v21.2.1, v21.2.2.1, (x26.next, List.map eItem x26.l, ()), ())))))))) (fun v => SmA (.bp 262192 0) ∧ SmA (.rp 327736 0 0) ∧ j24 v)))
 (Φ [.pv (B v21.1)])) (v16.1, 1, v16.2.2.2.2.1, (v16.2.2.2.2.2.1.1, v16.2.2.2.2.2.1.2.1, ()), ()))) (v14.1, v14.2.1, v14.2.2.1, v14.2.1, v14.2.2.2.2.1, (v14.2.2.2.2.2.1.1, v14.2.2.2.2.2.1.2.1, ()), ())))) (fun j15 =>
 (fun j15 : Bool × Int × Int × Int × List PV × (Int × (List PV) × Unit) × Unit → Prop =>
 SmA (.bp 262192 0) ∧ SmA (.rp 327736 0 0) ∧ SmA (.pv (I (Int.tmod (w64 (a1.toNat : Int)) 40))) ∧ Lo (fun (L32 : Bool × Int × Int × Int × Int × List PV × (Int × (List PV) × Unit) × Unit → Prop) (v31 : Bool × Int × Int × Int × Int × List PV × (Int × (List PV) × Unit) × Unit) =>
 Fk (decide (v31.2.2.2.2.1 ≤ (Int.tmod (w64 (a1.toNat : Int)) 40)))
 (Fk (v31.2.2.2.1 == 0)
 (Jn (fun v33 : Bool × Int × Int × Int × Int × List PV × (Int × (List PV) × Unit) × Unit =>
 SmA (.bp 262192 0) ∧ SmA (.rp 327736 0 0) ∧ SmA (.pv (I (Int.tmod (w64 (a1.toNat : Int)) 40))) ∧ L32 (v33.1, v33.2.1, v33.2.2.1, v33.2.2.2.1, w64 (v33.2.2.2.2.1 + 1), v33.2.2.2.2.2.1, (v33.2.2.2.2.2.2.1.1, v33.2.2.2.2.2.2.1.2.1, ()), ())) (fun j34 =>
 (fun j34 : Bool × Int × Int × Int × Int × List PV × (Int × (List PV) × Unit) × Unit → Prop =>
 Fk (decide (30 < v31.2.2.2.2.1))
 (j34 (v31.1, v31.2.1, v31.2.2.1, v31.2.2.2.2.1, v31.2.2.2.2.1, v31.2.2.2.2.2.1, (v31.2.2.2.2.2.2.1.1, v31.2.2.2.2.2.2.1.2.1, ()), ()))
 (Rx v31.2.2.2.2.1 31 (
 Ld I v31.2.2.2.2.2.1 v31.2.2.2.2.1.toNat fun x35 =>
 Fk (x35 == 0)
 (j34 (v31.1, v31.2.1, v31.2.2.1, v31.2.2.2.2.1, v31.2.2.2.2.1, v31.2.2.2.2.2.1, (v31.2.2.2.2.2.2.1.1, v31.2.2.2.2.2.2.1.2.1, ()), ()))
 (j34 (v31.1, v31.2.1, v31.2.2.1, v31.2.2.2.1, v31.2.2.2.2.1, v31.2.2.2.2.2.1, (v31.2.2.2.2.2.2.1.1, v31.2.2.2.2.2.2.1.2.1, ()), ()))))) (fun v => SmA (.bp 262192 0) ∧ SmA (.rp 327736 0 0) ∧ SmA (.pv (I (Int.tmod (w64 (a1.toNat : Int)) 40))) ∧ j34 v)))
 (j15 (v31.1, v31.2.1, v31.2.2.1, v31.2.2.2.1, v31.2.2.2.2.2.1, (v31.2.2.2.2.2.2.1.1, v31.2.2.2.2.2.2.1.2.1, ()), ())))
 (j15 (v31.1, v31.2.1, v31.2.2.1, v31.2.2.2.1, v31.2.2.2.2.2.1, (v31.2.2.2.2.2.2.1.1, v31.2.2.2.2.2.2.1.2.1, ()), ()))) (v3.1, x12, x13, 0, 1, v3.2.2.1, (v3.2.2.2.1.1, v3.2.2.2.1.2.1, ()), ())) (fun v => SmA (.bp 262192 0) ∧ SmA (.rp 327736 0 0) ∧ SmA (.pv (I (Int.tmod (w64 (a1.toNat : Int)) 40))) ∧ j15 v))))) (x1, 0, [I 0, I 0, I 0, I 0, I 0, I 0, I 0, I 0, I 0, I 0, I 0, I 0, I 0, I 0, I 0, I 0, I 0, I 0, I 0, I 0, I 0, I 0, I 0, I 0, I 0, I 0, I 0, I 0, I 0, I 0, I 0], (x2.next, List.map eItem x2.l, ()), ())))
theorem t5 (a0 : List PV) (a1 : UInt8) {Φ : List RV → Prop} (h : P5 a0 a1 Φ) : CtP Try.prog 5 [.sl false a0, U8 a1] Φ :=
  ctP_by h 1000 [(1000, .call [.pv .bool]), (2002, .fork [] []), (2997, .lens [0]), (4000, .call [.pv (.ty Win eWin)]), (5001, .trn), (5002, .trn), (7003, .fork [] []), (7999, .loop [.k 0 (.pv (.sl false a0)), .k 1 (.pv (U8 a1)), .c 5 .bool, .k 6 (.bp 262192 0), .k 7 (.rp 327736 0 0), .c 8 (.int .i64), .w 327736 48 1 [], .box 262192 true [.h (.int .i64), .h .sl]]), (9002, .ix UInt8 U8), (9005, .div), (10004, .call [.pv (.ty Win eWin), .pv .bool]), (11002, .ixr), (11003, .ld Int I), (11005, .fork [] []), (13000, .fork [] []), (14003, .ixr), (14004, .st Int I), (15998, .join [.k 0 (.pv (.sl false a0)), .k 1 (.pv (U8 a1)), .c 5 .bool, .k 6 (.bp 262192 0), .k 7 (.rp 327736 0 0), .c 8 (.int .i64), .k 10 (.bp 655440 0), .w 327736 48 1 [], .box 262192 true [.h (.int .i64), .h .sl], .box 655440 true [.h (.int .i64), .h .sl]]), (16002, .div), (17002, .call [.pv (.int .i64), .pv (.int .i64)]), (20003, .fork [] [(20006, .off)]), (20006, .fork [] []), (20999, .loop [.c 5 .bool, .k 6 (.bp 262192 0), .k 7 (.rp 327736 0 0), .k 12 (.pv (I (Int.tmod (w64 (a1.toNat : Int)) 40))), .c 13 (.int .i64), .c 14 (.int .i64), .c 15 (.int .i64), .c 16 (.int .i64), .w 327736 48 1 [], .box 262192 true [.h (.int .i64), .h .sl]]), (21998, .join [.c 5 .bool, .k 6 (.bp 262192 0), .k 7 (.rp 327736 0 0), .k 12 (.pv (I (Int.tmod (w64 (a1.toNat : Int)) 40))), .c 13 (.int .i64), .c 14 (.int .i64), .c 15 (.int .i64), .c 16 (.int .i64), .w 327736 48 1 [], .box 262192 true [.h (.int .i64), .h .sl]]), (22002, .fork [(22007, .off)] []), (22004, .ixr), (22005, .ld Int I), (22007, .fork [] []), (24003, .fork [(24009, .off)] []), (24009, .fork [] []), (24998, .join [.c 5 .bool, .k 6 (.bp 262192 0), .k 7 (.rp 327736 0 0), .k 12 (.pv (I (Int.tmod (w64 (a1.toNat : Int)) 40))), .c 13 (.int .i64), .c 14 (.int .i64), .c 15 (.int .i64), .w 327736 48 1 [], .box 262192 true [.h (.int .i64), .h .sl]]), (27004, .fork [] []), (27999, .loop [.c 5 .bool, .k 6 (.bp 262192 0), .k 7 (.rp 327736 0 0), .k 12 (.pv (I (Int.tmod (w64 (a1.toNat : Int)) 40))), .c 13 (.int .i64), .c 14 (.int .i64), .c 17 (.int .i64), .w 327736 48 1 [], .box 262192 true [.h (.int .i64), .h .sl]]), (28998, .join [.c 5 .bool, .k 6 (.bp 262192 0), .k 7 (.rp 327736 0 0), .k 12 (.pv (I (Int.tmod (w64 (a1.toNat : Int)) 40))), .c 13 (.int .i64), .c 14 (.int .i64), .c 17 (.int .i64), .w 327736 48 1 [], .box 262192 true [.h (.int .i64), .h .sl]]), (29002, .fork [(29016, .off), (29007, .off)] []), (29007, .fork [(29016, .off)] []), (29010, .fork [] [(29016, .off)]), (29012, .ixr), (29013, .ld Int I), (29016, .fork [] []), (32001, .fork [] []), (32999, .loop [.c 5 .bool, .k 6 (.bp 262192 0), .k 7 (.rp 327736 0 0), .c 18 (.int .i64), .w 327736 48 1 [], .box 262192 true [.h (.int .i64), .h .sl]]), (33998, .join [.c 5 .bool, .k 6 (.bp 262192 0), .k 7 (.rp 327736 0 0), .c 18 (.int .i64), .w 327736 48 1 [], .box 262192 true [.h (.int .i64), .h .sl]]), (34001, .call [.pv (.ty Item eItem), .pv (.ty Win eWin), .pv .bool]), (35002, .fork [] []), (35004, .ixr), (35005, .ld Int I), (36002, .fork [] []), (38001, .fork [] []), (40004, .fork [(40012, .off)] []), (40008, .ixr), (40009, .ld Int I), (40012, .fork [] [])] mixed Try.func5 rfl (by kernel_rfl) (by kernel_rfl)
end Go.Proofs.Ytbphgomdjjkffaa.M
