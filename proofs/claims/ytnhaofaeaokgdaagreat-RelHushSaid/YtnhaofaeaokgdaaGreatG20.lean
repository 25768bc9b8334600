/- The functions of this seat: what must be shown of each (P..), and that it is enough (t..) (written by a program of this session; no condition). -/
import Derived.Test.YtnhaofaeaokgdaaGreatProg
import Derived.KernelRfl
import Derived.Test.YtnhaofaeaokgdaaGreatNx24
set_option linter.all false
set_option linter.unusedVariables false
set_option linter.unusedSimpArgs false
set_option linter.unnecessarySimpa false
namespace Go.Proofs.YtnhaofaeaokgdaaGreat.M
open Go Go.Mir Go.Proofs
set_option maxRecDepth 100000
set_option linter.unusedVariables false
abbrev Clb (g : Nat) (xs : List BA) (bs : List (List PV)) (rs : List RV) (cs : List (List PV)) : Prop := Cb Tryz.prog g xs bs rs cs
abbrev Cl (g : Nat) (ps : List PV) (rs : List RV) : Prop := Ct Tryz.prog g ps rs
theorem mixed : Tryz.prog.follows .mixedOrders = true := by kernel_rfl
structure Item where
  mk ::
  kind : Int
  seq : Int
  epoch : Int
  index : Int
  total : Int
  count : Int
  l : List Int
  body : List UInt8
abbrev eItem (x : Item) : PV := .agg [I x.kind, I x.seq, I x.epoch, I x.index, I x.total, I x.count, .sl false (List.map I x.l), .sl false (List.map U8 x.body)]
abbrev lItem (l : List Item) : PV := .sl false (l.map eItem)
structure Keep where
  mk ::
  next : Int
  l : List Item
abbrev eKeep (x : Keep) : PV := .agg [I x.next, .sl false (List.map eItem x.l)]
abbrev lKeep (l : List Keep) : PV := .sl false (l.map eKeep)
structure Win where
  mk ::
  next : Int
  l : List Item
abbrev eWin (x : Win) : PV := .agg [I x.next, .sl false (List.map eItem x.l)]
abbrev lWin (l : List Win) : PV := .sl false (l.map eWin)
structure Ask where
  mk ::
  due : Int
abbrev eAsk (x : Ask) : PV := .agg [I x.due]
abbrev lAsk (l : List Ask) : PV := .sl false (l.map eAsk)
structure Rel where
  mk ::
  me : Int
  now : Int
  keep : Keep
  win : List Win
  top : List Int
  ask : List Ask
  have_ : List (List Int)
  lost : List Int
  naks : Int
abbrev eRel (x : Rel) : PV := .agg [I x.me, I x.now, I x.keep.next, .sl false (List.map eItem x.keep.l), .sl false (List.map eWin x.win), .sl false (List.map I x.top), .sl false (List.map eAsk x.ask), .sl false (List.map lI x.have_), .sl false (List.map I x.lost), I x.naks]
abbrev lRel (l : List Rel) : PV := .sl false (l.map eRel)
structure Packet where
  mk ::
  kind : Int
  from_ : Int
  item : Item
  to_ : Int
  lo : Int
  many : Int
  top : Int
  l : List Int
abbrev ePacket (x : Packet) : PV := .agg [I x.kind, I x.from_, I x.item.kind, I x.item.seq, I x.item.epoch, I x.item.index, I x.item.total, I x.item.count, .sl false (List.map I x.item.l), .sl false (List.map U8 x.item.body), I x.to_, I x.lo, I x.many, I x.top, .sl false (List.map I x.l)]
abbrev lPacket (l : List Packet) : PV := .sl false (l.map ePacket)
structure RelHearsIn where
  mk ::
  r : Rel
  n : Int
  p : Packet
  done : List Int
  buf : UInt8
  wait : UInt16
  every : UInt16
abbrev eRelHearsIn (x : RelHearsIn) : PV := .agg [I x.r.me, I x.r.now, I x.r.keep.next, .sl false (List.map eItem x.r.keep.l), .sl false (List.map eWin x.r.win), .sl false (List.map I x.r.top), .sl false (List.map eAsk x.r.ask), .sl false (List.map lI x.r.have_), .sl false (List.map I x.r.lost), I x.r.naks, I x.n, I x.p.kind, I x.p.from_, I x.p.item.kind, I x.p.item.seq, I x.p.item.epoch, I x.p.item.index, I x.p.item.total, I x.p.item.count, .sl false (List.map I x.p.item.l), .sl false (List.map U8 x.p.item.body), I x.p.to_, I x.p.lo, I x.p.many, I x.p.top, .sl false (List.map I x.p.l), .sl false (List.map I x.done), U8 x.buf, .lit (.int .u16 (x.wait.toNat : Int)), .lit (.int .u16 (x.every.toNat : Int))]
abbrev lRelHearsIn (l : List RelHearsIn) : PV := .sl false (l.map eRelHearsIn)
abbrev llI (l : List (List Int)) : PV := .sl false (l.map lI)
/-- keep.New -/
def P64  (Φ : List RV → Prop) : Prop :=
 Φ [.pv (.agg [I 1, .sl true []])]
theorem t64  {Φ : List RV → Prop} (h : P64  Φ) : CtP Tryz.prog 64 [] Φ :=
  ctP_by h 1000 [] mixed Tryz.func64 rfl (by kernel_rfl) (by kernel_rfl)

/-- win.New -/
def P65  (Φ : List RV → Prop) : Prop :=
 Φ [.pv (.agg [I 1, .sl true []])]
theorem t65  {Φ : List RV → Prop} (h : P65  Φ) : CtP Tryz.prog 65 [] Φ :=
  ctP_by h 1000 [] mixed Tryz.func65 rfl (by kernel_rfl) (by kernel_rfl)

/-- rel.New -/
def P19 (a0 : Int) (a1 : Int) (Φ : List RV → Prop) : Prop :=
 ∃ x1, Cl 64 [] [.pv (eKeep x1)] ∧
 Mk 32 a1 a1 (
 Mk 8 a1 a1 (
 Mk 8 a1 a1 (
 Mk 24 a1 a1 (
 SmA (.pv (I a1)) ∧ SmA (.bp 65568 0) ∧ SmA (.bp 131112 0) ∧ SmA (.pv (I a1)) ∧ SmA (.pv (I 0)) ∧ SmA (.pv (I 0)) ∧ SmA (.pv (I 0)) ∧ SmA (.pv (.sl true [])) ∧ SmA (.pv (.sl true [])) ∧ SmA (.pv (.sl true [])) ∧ SmA (.pv (.sl true [])) ∧ SmA (.pv (.sl true [])) ∧ SmA (.pv (.sl true [])) ∧ SmA (.pv (I 0)) ∧ SmA (.pv (I a0)) ∧ SmA (.pv (I 0)) ∧ SmA (.pv (.sl true [])) ∧ SmA (.pv (I 0)) ∧ Lo (fun (L3 : Int × Unit × (Int × (List PV) × (List PV) × (List PV) × (List PV) × (List PV) × Unit) × Unit → Prop) (v2 : Int × Unit × (Int × (List PV) × (List PV) × (List PV) × (List PV) × (List PV) × Unit) × Unit) =>
 Fk (decide (v2.1 < a1))
 (∃ x4, Cl 65 [] [.pv (eWin x4)] ∧
 Rx v2.1 v2.2.2.1.2.2.1.length (
 Ld (fun x : PV × PV => PV.agg [x.1, x.2]) v2.2.2.1.2.2.1 (0 + v2.1.toNat) fun x5 =>
 Mk 8 a1 a1 (
 Rx v2.1 v2.2.2.1.2.2.2.2.2.1.length (
 Ld (fun x : Bool × List PV => PV.sl x.1 x.2) v2.2.2.1.2.2.2.2.2.1 (0 + v2.1.toNat) fun x6 =>
 SmA (.pv (I a1)) ∧ SmA (.bp 65568 0) ∧ SmA (.bp 131112 0) ∧ SmA (.pv (I a1)) ∧ SmA (.pv (I 0)) ∧ SmA (.pv (I 0)) ∧ SmA (.pv (I 0)) ∧ SmA (.pv (.sl true [])) ∧ SmA (.pv (.sl true [])) ∧ SmA (.pv (.sl true [])) ∧ SmA (.pv (.sl true [])) ∧ SmA (.pv (.sl true [])) ∧ SmA (.pv (.sl true [])) ∧ SmA (.pv (I 0)) ∧ SmA (.pv (I a0)) ∧ SmA (.pv (I 0)) ∧ SmA (.pv (.sl true [])) ∧ SmA (.pv (I 0)) ∧ L3 (w64 (v2.1 + 1), (), (v2.2.2.1.1, v2.2.2.1.2.1, v2.2.2.1.2.2.1.set (0 + v2.1.toNat) (eWin x4), v2.2.2.1.2.2.2.1, v2.2.2.1.2.2.2.2.1, v2.2.2.1.2.2.2.2.2.1.set (0 + v2.1.toNat) (.sl false (List.replicate a1.toNat (I 0))), ()), ())))))
 (Φ [.pv (.agg [I a0, I 0, I v2.2.2.1.1, .sl false v2.2.2.1.2.1, .sl false v2.2.2.1.2.2.1, .sl false v2.2.2.1.2.2.2.1, .sl false v2.2.2.1.2.2.2.2.1, .sl false v2.2.2.1.2.2.2.2.2.1, .sl true [], I 0])])) (0, (), (x1.next, List.map eItem x1.l, List.replicate a1.toNat (.agg [I 0, .sl true []]), List.replicate a1.toNat (I 0), List.replicate a1.toNat (.agg [I 0]), List.replicate a1.toNat (.sl true []), ()), ())))))
theorem t19 (a0 : Int) (a1 : Int) {Φ : List RV → Prop} (h : P19 a0 a1 Φ) : CtP Tryz.prog 19 [I a0, I a1] Φ :=
  ctP_by h 1000 [(1001, .call [.pv (.ty Keep eKeep)]), (1003, .mk), (1005, .mk), (1007, .mk), (1009, .mk), (3000, .fork [] []), (3999, .loop [.k 1 (.pv (I a1)), .k 4 (.bp 65568 0), .k 5 (.bp 131112 0), .k 18 (.pv (I a1)), .c 19 (.int .i64), .box 65568 true [.k (.pv (I 0)), .k (.pv (I 0)), .k (.pv (I 0)), .k (.pv (.sl true [])), .k (.pv (.sl true [])), .k (.pv (.sl true [])), .k (.pv (.sl true [])), .k (.pv (.sl true [])), .k (.pv (.sl true [])), .k (.pv (I 0))], .box 131112 true [.k (.pv (I a0)), .k (.pv (I 0)), .h (.int .i64), .h .sl, .r 262147 62 2, .r 262155 3 1, .r 262163 67 1, .r 262171 26 1, .k (.pv (.sl true [])), .k (.pv (I 0))]]), (5003, .call [.pv (.ty Win eWin)]), (5004, .ixr), (5005, .st (PV × PV) (fun x : PV × PV => PV.agg [x.1, x.2])), (6004, .mk), (6005, .ixr), (6006, .st (Bool × List PV) (fun x : Bool × List PV => PV.sl x.1 x.2))] mixed Tryz.func19 rfl (by kernel_rfl) (by kernel_rfl)

/-- item.rules -/
def P122 (a0 : Item) (Φ : List RV → Prop) : Prop :=
 Φ [.pv (.map [(.int .i64 1, .fn (.func 139) [] [.ip [I a0.kind, I a0.seq, I a0.epoch, I a0.index, I a0.total, I a0.count, .sl false (List.map I a0.l), .sl false (List.map U8 a0.body)] 0]), (.int .i64 2, .fn (.func 140) [] [.ip [.fn (.func 134) [] [.ip [I a0.kind, I a0.seq, I a0.epoch, I a0.index, I a0.total, I a0.count, .sl false (List.map I a0.l), .sl false (List.map U8 a0.body)] 0]] 0, .ip [.fn (.func 135) [] [.ip [I a0.kind, I a0.seq, I a0.epoch, I a0.index, I a0.total, I a0.count, .sl false (List.map I a0.l), .sl false (List.map U8 a0.body)] 0]] 0, .ip [.fn (.func 136) [] [.ip [I a0.kind, I a0.seq, I a0.epoch, I a0.index, I a0.total, I a0.count, .sl false (List.map I a0.l), .sl false (List.map U8 a0.body)] 0]] 0]), (.int .i64 3, .fn (.func 141) [] [.ip [.fn (.func 134) [] [.ip [I a0.kind, I a0.seq, I a0.epoch, I a0.index, I a0.total, I a0.count, .sl false (List.map I a0.l), .sl false (List.map U8 a0.body)] 0]] 0, .ip [.fn (.func 138) [] [.ip [I a0.kind, I a0.seq, I a0.epoch, I a0.index, I a0.total, I a0.count, .sl false (List.map I a0.l), .sl false (List.map U8 a0.body)] 0]] 0]), (.int .i64 4, .fn (.func 142) [] [.ip [.fn (.func 134) [] [.ip [I a0.kind, I a0.seq, I a0.epoch, I a0.index, I a0.total, I a0.count, .sl false (List.map I a0.l), .sl false (List.map U8 a0.body)] 0]] 0, .ip [.fn (.func 135) [] [.ip [I a0.kind, I a0.seq, I a0.epoch, I a0.index, I a0.total, I a0.count, .sl false (List.map I a0.l), .sl false (List.map U8 a0.body)] 0]] 0, .ip [.fn (.func 138) [] [.ip [I a0.kind, I a0.seq, I a0.epoch, I a0.index, I a0.total, I a0.count, .sl false (List.map I a0.l), .sl false (List.map U8 a0.body)] 0]] 0]), (.int .i64 5, .fn (.func 143) [] [.ip [.fn (.func 134) [] [.ip [I a0.kind, I a0.seq, I a0.epoch, I a0.index, I a0.total, I a0.count, .sl false (List.map I a0.l), .sl false (List.map U8 a0.body)] 0]] 0, .ip [.fn (.func 138) [] [.ip [I a0.kind, I a0.seq, I a0.epoch, I a0.index, I a0.total, I a0.count, .sl false (List.map I a0.l), .sl false (List.map U8 a0.body)] 0]] 0, .ip [I a0.kind, I a0.seq, I a0.epoch, I a0.index, I a0.total, I a0.count, .sl false (List.map I a0.l), .sl false (List.map U8 a0.body)] 0]), (.int .i64 6, .fn (.func 144) [] [.ip [.fn (.func 134) [] [.ip [I a0.kind, I a0.seq, I a0.epoch, I a0.index, I a0.total, I a0.count, .sl false (List.map I a0.l), .sl false (List.map U8 a0.body)] 0]] 0, .ip [.fn (.func 136) [] [.ip [I a0.kind, I a0.seq, I a0.epoch, I a0.index, I a0.total, I a0.count, .sl false (List.map I a0.l), .sl false (List.map U8 a0.body)] 0]] 0])])]
theorem t122 (a0 : Item) {Φ : List RV → Prop} (h : P122 a0 Φ) : CtP Tryz.prog 122 [eItem a0] Φ :=
  ctP_by h 1000 [] mixed Tryz.func122 rfl (by kernel_rfl) (by kernel_rfl)

/-- item.within -/
def P123 (a0 : Int) (a1 : Int) (a2 : Int) (Φ : List RV → Prop) : Prop :=
 Fk (decide (a1 ≤ a0))
 (Φ [.pv (B (decide (a0 ≤ a2)))])
 (Φ [.pv (B false)])
theorem t123 (a0 : Int) (a1 : Int) (a2 : Int) {Φ : List RV → Prop} (h : P123 a0 a1 a2 Φ) : CtP Tryz.prog 123 [I a0, I a1, I a2] Φ :=
  ctP_by h 1000 [(1003, .fork [] [])] mixed Tryz.func123 rfl (by kernel_rfl) (by kernel_rfl)

/-- item.rules$5 -/
def P139a (b0 : Item) (Φ : List RV → Prop) : Prop :=
 ∃ x1, Cl 123 [I b0.total, I 1, I 32] [.pv (B x1)] ∧
 Fk x1
 (∃ x2, Cl 123 [I b0.index, I 0, I (w64 (b0.total - 1))] [.pv (B x2)] ∧
 Fk x2
 (Fk (b0.count == 0)
 (Fk (((List.map I b0.l).length : Int) == 0)
 (Φ [.pv (B (decide (((List.map U8 b0.body).length : Int) ≤ 1024)))])
 (Φ [.pv (B false)]))
 (Φ [.pv (B false)]))
 (Φ [.pv (B false)]))
 (Φ [.pv (B false)])
theorem t139a (b0 : Item) {Φ : List RV → Prop} (h : P139a b0 Φ) : CtP Tryz.prog 139 [.ip ((eItem b0).cells) 0] Φ :=
  ctP_by h 1000 [(1002, .call [.pv .bool]), (1003, .fork [] [(1011, .off), (1016, .off), (1022, .off)]), (1009, .call [.pv .bool]), (1011, .fork [] [(1016, .off), (1022, .off)]), (1016, .fork [] [(1022, .off)]), (1022, .fork [] [])] mixed Tryz.func139 rfl (by kernel_rfl) (by kernel_rfl)

/-- item.rules$1 -/
def P134a (b0 : Bool) (b1 : Bool) (b2 : Item) (Φ : List RV → Prop) : Prop :=
 Fk (b2.total == 0)
 (Fk b0
 (Fk b1
 (Φ [.pv (B true)])
 (Φ [.pv (B (b2.count == 0))]))
 (Fk (b2.index == 0)
 (Fk b1
 (Φ [.pv (B true)])
 (Φ [.pv (B (b2.count == 0))]))
 (Φ [.pv (B false)])))
 (Φ [.pv (B false)])
theorem t134a (b0 : Bool) (b1 : Bool) (b2 : Item) {Φ : List RV → Prop} (h : P134a b0 b1 b2 Φ) : CtP Tryz.prog 134 [B b0, B b1, .ip ((eItem b2).cells) 0] Φ :=
  ctP_by h 1000 [(1003, .fork [] [(1011, .off)]), (1005, .fork [(1011, .off)] []), (1011, .fork [] []), (1013, .fork [] [])] mixed Tryz.func134 rfl (by kernel_rfl) (by kernel_rfl)

/-- item.rules$2 -/
def P135a (b0 : Item) (Φ : List RV → Prop) : Prop :=
 ∃ x1, Cl 123 [I b0.index, I 0, I 1] [.pv (B x1)] ∧
 Φ [.pv (B x1)]
theorem t135a (b0 : Item) {Φ : List RV → Prop} (h : P135a b0 Φ) : CtP Tryz.prog 135 [.ip ((eItem b0).cells) 0] Φ :=
  ctP_by h 1000 [(1002, .call [.pv .bool])] mixed Tryz.func135 rfl (by kernel_rfl) (by kernel_rfl)

/-- item.each -/
def P137 (a0 : List PV) (a1 : Int) (Φ : List RV → Prop) : Prop :=
 Ln a0 (SmA (.pv (I a1)) ∧ SmA (.pv (.sl false a0)) ∧ SmA (.pv (I (a0.length : Int))) ∧ Lo (fun (L2 : Int × Unit → Prop) (v1 : Int × Unit) =>
 Fk (decide (v1.1 < (a0.length : Int)))
 (Ix I a0 v1.1 fun x3 =>
 ∃ x4, Cl 123 [I x3, I 0, I a1] [.pv (B x4)] ∧
 Fk (!x4)
 (Φ [.pv (B false)])
 (SmA (.pv (I a1)) ∧ SmA (.pv (.sl false a0)) ∧ SmA (.pv (I (a0.length : Int))) ∧ L2 (w64 (v1.1 + 1), ())))
 (Φ [.pv (B true)])) (0, ()))
theorem t137 (a0 : List PV) (a1 : Int) {Φ : List RV → Prop} (h : P137 a0 a1 Φ) : CtP Tryz.prog 137 [.sl false a0, I a1] Φ :=
  ctP_by h 1000 [(1997, .lens [0]), (2000, .fork [] []), (2999, .loop [.k 1 (.pv (I a1)), .k 7 (.pv (.sl false a0)), .k 8 (.pv (I (a0.length : Int))), .c 9 (.int .i64)]), (3000, .ix Int I), (4002, .call [.pv .bool]), (4003, .fork [] [])] mixed Tryz.func137 rfl (by kernel_rfl) (by kernel_rfl)

/-- item.rules$3 -/
def P136a (b0 : Int) (b1 : Int) (b2 : Int) (b3 : Item) (Φ : List RV → Prop) : Prop :=
 ∃ x1, Cl 123 [I ((List.map I b3.l).length : Int), I b0, I b1] [.pv (B x1)] ∧
 Fk x1
 (∃ x2, Cl 137 [.sl false (List.map I b3.l), I b2] [.pv (B x2)] ∧
 Fk x2
 (Φ [.pv (B (((List.map U8 b3.body).length : Int) == 0))])
 (Φ [.pv (B false)]))
 (Φ [.pv (B false)])
theorem t136a (b0 : Int) (b1 : Int) (b2 : Int) (b3 : Item) {Φ : List RV → Prop} (h : P136a b0 b1 b2 b3 Φ) : CtP Tryz.prog 136 [I b0, I b1, I b2, .ip ((eItem b3).cells) 0] Φ :=
  ctP_by h 1000 [(1005, .call [.pv .bool]), (1006, .fork [] [(1012, .off)]), (1010, .call [.pv .bool]), (1012, .fork [] [])] mixed Tryz.func136 rfl (by kernel_rfl) (by kernel_rfl)

/-- item.rules$6 -/
def P140a (b0 : Item) (b1 : Item) (b2 : Item) (Φ : List RV → Prop) : Prop :=
 ∃ x1, Cl 134 [B true, B false, .ip ((eItem b0).cells) 0] [.pv (B x1)] ∧
 Fk x1
 (∃ x2, Cl 135 [.ip ((eItem b1).cells) 0] [.pv (B x2)] ∧
 Fk x2
 (∃ x3, Cl 136 [I 1, I 64, I 63, .ip ((eItem b2).cells) 0] [.pv (B x3)] ∧
 Φ [.pv (B x3)])
 (Φ [.pv (B false)]))
 (Φ [.pv (B false)])
theorem t140a (b0 : Item) (b1 : Item) (b2 : Item) {Φ : List RV → Prop} (h : P140a b0 b1 b2 Φ) : CtP Tryz.prog 140 [.ip [.fn (.func 134) [] [.ip ((eItem b0).cells) 0]] 0, .ip [.fn (.func 135) [] [.ip ((eItem b1).cells) 0]] 0, .ip [.fn (.func 136) [] [.ip ((eItem b2).cells) 0]] 0] Φ :=
  ctP_by h 1000 [(1001, .call [.pv .bool]), (1002, .fork [] [(1006, .off)]), (1004, .call [.pv .bool]), (1006, .fork [] []), (1008, .call [.pv .bool])] mixed Tryz.func140 rfl (by kernel_rfl) (by kernel_rfl)

/-- item.rules$4 -/
def P138a (b0 : Item) (Φ : List RV → Prop) : Prop :=
 Fk (((List.map I b0.l).length : Int) == 0)
 (Φ [.pv (B (((List.map U8 b0.body).length : Int) == 0))])
 (Φ [.pv (B false)])
theorem t138a (b0 : Item) {Φ : List RV → Prop} (h : P138a b0 Φ) : CtP Tryz.prog 138 [.ip ((eItem b0).cells) 0] Φ :=
  ctP_by h 1000 [(1004, .fork [] [])] mixed Tryz.func138 rfl (by kernel_rfl) (by kernel_rfl)

/-- item.rules$7 -/
def P141a (b0 : Item) (b1 : Item) (Φ : List RV → Prop) : Prop :=
 ∃ x1, Cl 134 [B false, B false, .ip ((eItem b0).cells) 0] [.pv (B x1)] ∧
 Fk x1
 (∃ x2, Cl 138 [.ip ((eItem b1).cells) 0] [.pv (B x2)] ∧
 Φ [.pv (B x2)])
 (Φ [.pv (B false)])
theorem t141a (b0 : Item) (b1 : Item) {Φ : List RV → Prop} (h : P141a b0 b1 Φ) : CtP Tryz.prog 141 [.ip [.fn (.func 134) [] [.ip ((eItem b0).cells) 0]] 0, .ip [.fn (.func 138) [] [.ip ((eItem b1).cells) 0]] 0] Φ :=
  ctP_by h 1000 [(1001, .call [.pv .bool]), (1002, .fork [] []), (1004, .call [.pv .bool])] mixed Tryz.func141 rfl (by kernel_rfl) (by kernel_rfl)

/-- item.rules$8 -/
def P142a (b0 : Item) (b1 : Item) (b2 : Item) (Φ : List RV → Prop) : Prop :=
 ∃ x1, Cl 134 [B true, B false, .ip ((eItem b0).cells) 0] [.pv (B x1)] ∧
 Fk x1
 (∃ x2, Cl 135 [.ip ((eItem b1).cells) 0] [.pv (B x2)] ∧
 Fk x2
 (∃ x3, Cl 138 [.ip ((eItem b2).cells) 0] [.pv (B x3)] ∧
 Φ [.pv (B x3)])
 (Φ [.pv (B false)]))
 (Φ [.pv (B false)])
theorem t142a (b0 : Item) (b1 : Item) (b2 : Item) {Φ : List RV → Prop} (h : P142a b0 b1 b2 Φ) : CtP Tryz.prog 142 [.ip [.fn (.func 134) [] [.ip ((eItem b0).cells) 0]] 0, .ip [.fn (.func 135) [] [.ip ((eItem b1).cells) 0]] 0, .ip [.fn (.func 138) [] [.ip ((eItem b2).cells) 0]] 0] Φ :=
  ctP_by h 1000 [(1001, .call [.pv .bool]), (1002, .fork [] [(1006, .off)]), (1004, .call [.pv .bool]), (1006, .fork [] []), (1008, .call [.pv .bool])] mixed Tryz.func142 rfl (by kernel_rfl) (by kernel_rfl)

/-- item.rules$9 -/
def P143a (b0 : Item) (b1 : Item) (b2 : Item) (Φ : List RV → Prop) : Prop :=
 ∃ x1, Cl 134 [B false, B true, .ip ((eItem b0).cells) 0] [.pv (B x1)] ∧
 Fk x1
 (∃ x2, Cl 138 [.ip ((eItem b1).cells) 0] [.pv (B x2)] ∧
 Fk x2
 (∃ x3, Cl 123 [I b2.count, I 0, I 4611686018427387904] [.pv (B x3)] ∧
 Φ [.pv (B x3)])
 (Φ [.pv (B false)]))
 (Φ [.pv (B false)])
theorem t143a (b0 : Item) (b1 : Item) (b2 : Item) {Φ : List RV → Prop} (h : P143a b0 b1 b2 Φ) : CtP Tryz.prog 143 [.ip [.fn (.func 134) [] [.ip ((eItem b0).cells) 0]] 0, .ip [.fn (.func 138) [] [.ip ((eItem b1).cells) 0]] 0, .ip ((eItem b2).cells) 0] Φ :=
  ctP_by h 1000 [(1001, .call [.pv .bool]), (1002, .fork [] [(1006, .off)]), (1004, .call [.pv .bool]), (1006, .fork [] []), (1009, .call [.pv .bool])] mixed Tryz.func143 rfl (by kernel_rfl) (by kernel_rfl)

/-- item.rules$10 -/
def P144a (b0 : Item) (b1 : Item) (Φ : List RV → Prop) : Prop :=
 ∃ x1, Cl 134 [B false, B false, .ip ((eItem b0).cells) 0] [.pv (B x1)] ∧
 Fk x1
 (∃ x2, Cl 136 [I 2, I 64, I 4611686018427387904, .ip ((eItem b1).cells) 0] [.pv (B x2)] ∧
 Φ [.pv (B x2)])
 (Φ [.pv (B false)])
theorem t144a (b0 : Item) (b1 : Item) {Φ : List RV → Prop} (h : P144a b0 b1 Φ) : CtP Tryz.prog 144 [.ip [.fn (.func 134) [] [.ip ((eItem b0).cells) 0]] 0, .ip [.fn (.func 136) [] [.ip ((eItem b1).cells) 0]] 0] Φ :=
  ctP_by h 1000 [(1001, .call [.pv .bool]), (1002, .fork [] []), (1004, .call [.pv .bool])] mixed Tryz.func144 rfl (by kernel_rfl) (by kernel_rfl)

/-- item.May -/
def P92 (a0 : Item) (Φ : List RV → Prop) : Prop :=
 Cl 122 [eItem a0] [.pv (.map [(.int .i64 1, .fn (.func 139) [] [.ip [I a0.kind, I a0.seq, I a0.epoch, I a0.index, I a0.total, I a0.count, .sl false (List.map I a0.l), .sl false (List.map U8 a0.body)] 0]), (.int .i64 2, .fn (.func 140) [] [.ip [.fn (.func 134) [] [.ip [I a0.kind, I a0.seq, I a0.epoch, I a0.index, I a0.total, I a0.count, .sl false (List.map I a0.l), .sl false (List.map U8 a0.body)] 0]] 0, .ip [.fn (.func 135) [] [.ip [I a0.kind, I a0.seq, I a0.epoch, I a0.index, I a0.total, I a0.count, .sl false (List.map I a0.l), .sl false (List.map U8 a0.body)] 0]] 0, .ip [.fn (.func 136) [] [.ip [I a0.kind, I a0.seq, I a0.epoch, I a0.index, I a0.total, I a0.count, .sl false (List.map I a0.l), .sl false (List.map U8 a0.body)] 0]] 0]), (.int .i64 3, .fn (.func 141) [] [.ip [.fn (.func 134) [] [.ip [I a0.kind, I a0.seq, I a0.epoch, I a0.index, I a0.total, I a0.count, .sl false (List.map I a0.l), .sl false (List.map U8 a0.body)] 0]] 0, .ip [.fn (.func 138) [] [.ip [I a0.kind, I a0.seq, I a0.epoch, I a0.index, I a0.total, I a0.count, .sl false (List.map I a0.l), .sl false (List.map U8 a0.body)] 0]] 0]), (.int .i64 4, .fn (.func 142) [] [.ip [.fn (.func 134) [] [.ip [I a0.kind, I a0.seq, I a0.epoch, I a0.index, I a0.total, I a0.count, .sl false (List.map I a0.l), .sl false (List.map U8 a0.body)] 0]] 0, .ip [.fn (.func 135) [] [.ip [I a0.kind, I a0.seq, I a0.epoch, I a0.index, I a0.total, I a0.count, .sl false (List.map I a0.l), .sl false (List.map U8 a0.body)] 0]] 0, .ip [.fn (.func 138) [] [.ip [I a0.kind, I a0.seq, I a0.epoch, I a0.index, I a0.total, I a0.count, .sl false (List.map I a0.l), .sl false (List.map U8 a0.body)] 0]] 0]), (.int .i64 5, .fn (.func 143) [] [.ip [.fn (.func 134) [] [.ip [I a0.kind, I a0.seq, I a0.epoch, I a0.index, I a0.total, I a0.count, .sl false (List.map I a0.l), .sl false (List.map U8 a0.body)] 0]] 0, .ip [.fn (.func 138) [] [.ip [I a0.kind, I a0.seq, I a0.epoch, I a0.index, I a0.total, I a0.count, .sl false (List.map I a0.l), .sl false (List.map U8 a0.body)] 0]] 0, .ip [I a0.kind, I a0.seq, I a0.epoch, I a0.index, I a0.total, I a0.count, .sl false (List.map I a0.l), .sl false (List.map U8 a0.body)] 0]), (.int .i64 6, .fn (.func 144) [] [.ip [.fn (.func 134) [] [.ip [I a0.kind, I a0.seq, I a0.epoch, I a0.index, I a0.total, I a0.count, .sl false (List.map I a0.l), .sl false (List.map U8 a0.body)] 0]] 0, .ip [.fn (.func 136) [] [.ip [I a0.kind, I a0.seq, I a0.epoch, I a0.index, I a0.total, I a0.count, .sl false (List.map I a0.l), .sl false (List.map U8 a0.body)] 0]] 0])])] ∧
 Fk (a0.kind == 1)
 (∃ x1, Cl 139 [.ip [I a0.kind, I a0.seq, I a0.epoch, I a0.index, I a0.total, I a0.count, .sl false (List.map I a0.l), .sl false (List.map U8 a0.body)] 0] [.pv (B x1)] ∧
 Fk x1
 (∃ x2, Cl 123 [I a0.seq, I 1, I 4611686018427387904] [.pv (B x2)] ∧
 Fk x2
 (∃ x3, Cl 123 [I a0.epoch, I 0, I 4611686018427387904] [.pv (B x3)] ∧
 Φ [.pv (B x3)])
 (Φ [.pv (B false)]))
 (Φ [.pv (B false)]))
 (Fk (a0.kind == 2)
 (∃ x4, Cl 140 [.ip [.fn (.func 134) [] [.ip [I a0.kind, I a0.seq, I a0.epoch, I a0.index, I a0.total, I a0.count, .sl false (List.map I a0.l), .sl false (List.map U8 a0.body)] 0]] 0, .ip [.fn (.func 135) [] [.ip [I a0.kind, I a0.seq, I a0.epoch, I a0.index, I a0.total, I a0.count, .sl false (List.map I a0.l), .sl false (List.map U8 a0.body)] 0]] 0, .ip [.fn (.func 136) [] [.ip [I a0.kind, I a0.seq, I a0.epoch, I a0.index, I a0.total, I a0.count, .sl false (List.map I a0.l), .sl false (List.map U8 a0.body)] 0]] 0] [.pv (B x4)] ∧
 Fk x4
 (∃ x5, Cl 123 [I a0.seq, I 1, I 4611686018427387904] [.pv (B x5)] ∧
 Fk x5
 (∃ x6, Cl 123 [I a0.epoch, I 0, I 4611686018427387904] [.pv (B x6)] ∧
 Φ [.pv (B x6)])
 (Φ [.pv (B false)]))
 (Φ [.pv (B false)]))
 (Fk (a0.kind == 3)
 (∃ x7, Cl 141 [.ip [.fn (.func 134) [] [.ip [I a0.kind, I a0.seq, I a0.epoch, I a0.index, I a0.total, I a0.count, .sl false (List.map I a0.l), .sl false (List.map U8 a0.body)] 0]] 0, .ip [.fn (.func 138) [] [.ip [I a0.kind, I a0.seq, I a0.epoch, I a0.index, I a0.total, I a0.count, .sl false (List.map I a0.l), .sl false (List.map U8 a0.body)] 0]] 0] [.pv (B x7)] ∧
 Fk x7
 (∃ x8, Cl 123 [I a0.seq, I 1, I 4611686018427387904] [.pv (B x8)] ∧
 Fk x8
 (∃ x9, Cl 123 [I a0.epoch, I 0, I 4611686018427387904] [.pv (B x9)] ∧
 Φ [.pv (B x9)])
 (Φ [.pv (B false)]))
 (Φ [.pv (B false)]))
 (Fk (a0.kind == 4)
 (∃ x10, Cl 142 [.ip [.fn (.func 134) [] [.ip [I a0.kind, I a0.seq, I a0.epoch, I a0.index, I a0.total, I a0.count, .sl false (List.map I a0.l), .sl false (List.map U8 a0.body)] 0]] 0, .ip [.fn (.func 135) [] [.ip [I a0.kind, I a0.seq, I a0.epoch, I a0.index, I a0.total, I a0.count, .sl false (List.map I a0.l), .sl false (List.map U8 a0.body)] 0]] 0, .ip [.fn (.func 138) [] [.ip [I a0.kind, I a0.seq, I a0.epoch, I a0.index, I a0.total, I a0.count, .sl false (List.map I a0.l), .sl false (List.map U8 a0.body)] 0]] 0] [.pv (B x10)] ∧
 Fk x10
 (∃ x11, Cl 123 [I a0.seq, I 1, I 4611686018427387904] [.pv (B x11)] ∧
 Fk x11
 (∃ x12, Cl 123 [I a0.epoch, I 0, I 4611686018427387904] [.pv (B x12)] ∧
 Φ [.pv (B x12)])
 (Φ [.pv (B false)]))
 (Φ [.pv (B false)]))
 (Fk (a0.kind == 5)
 (∃ x13, Cl 143 [.ip [.fn (.func 134) [] [.ip [I a0.kind, I a0.seq, I a0.epoch, I a0.index, I a0.total, I a0.count, .sl false (List.map I a0.l), .sl false (List.map U8 a0.body)] 0]] 0, .ip [.fn (.func 138) [] [.ip [I a0.kind, I a0.seq, I a0.epoch, I a0.index, I a0.total, I a0.count, .sl false (List.map I a0.l), .sl false (List.map U8 a0.body)] 0]] 0, .ip [I a0.kind, I a0.seq, I a0.epoch, I a0.index, I a0.total, I a0.count, .sl false (List.map I a0.l), .sl false (List.map U8 a0.body)] 0] [.pv (B x13)] ∧
 Fk x13
 (∃ x14, Cl 123 [I a0.seq, I 1, I 4611686018427387904] [.pv (B x14)] ∧
 Fk x14
 (∃ x15, Cl 123 [I a0.epoch, I 0, I 4611686018427387904] [.pv (B x15)] ∧
 Φ [.pv (B x15)])
 (Φ [.pv (B false)]))
 (Φ [.pv (B false)]))
 (Fk (a0.kind == 6)
 (∃ x16, Cl 144 [.ip [.fn (.func 134) [] [.ip [I a0.kind, I a0.seq, I a0.epoch, I a0.index, I a0.total, I a0.count, .sl false (List.map I a0.l), .sl false (List.map U8 a0.body)] 0]] 0, .ip [.fn (.func 136) [] [.ip [I a0.kind, I a0.seq, I a0.epoch, I a0.index, I a0.total, I a0.count, .sl false (List.map I a0.l), .sl false (List.map U8 a0.body)] 0]] 0] [.pv (B x16)] ∧
 Fk x16
 (∃ x17, Cl 123 [I a0.seq, I 1, I 4611686018427387904] [.pv (B x17)] ∧
 Fk x17
 (∃ x18, Cl 123 [I a0.epoch, I 0, I 4611686018427387904] [.pv (B x18)] ∧
 Φ [.pv (B x18)])
 (Φ [.pv (B false)]))
 (Φ [.pv (B false)]))
 (Φ [.pv (B false)]))))))
theorem t92 (a0 : Item) {Φ : List RV → Prop} (h : P92 a0 Φ) : CtP Tryz.prog 92 [eItem a0] Φ :=
  ctP_by h 1000 [(1001, .call [.pv (.cst (.map [(.int .i64 1, .fn (.func 139) [] [.ip [I a0.kind, I a0.seq, I a0.epoch, I a0.index, I a0.total, I a0.count, .sl false (List.map I a0.l), .sl false (List.map U8 a0.body)] 0]), (.int .i64 2, .fn (.func 140) [] [.ip [.fn (.func 134) [] [.ip [I a0.kind, I a0.seq, I a0.epoch, I a0.index, I a0.total, I a0.count, .sl false (List.map I a0.l), .sl false (List.map U8 a0.body)] 0]] 0, .ip [.fn (.func 135) [] [.ip [I a0.kind, I a0.seq, I a0.epoch, I a0.index, I a0.total, I a0.count, .sl false (List.map I a0.l), .sl false (List.map U8 a0.body)] 0]] 0, .ip [.fn (.func 136) [] [.ip [I a0.kind, I a0.seq, I a0.epoch, I a0.index, I a0.total, I a0.count, .sl false (List.map I a0.l), .sl false (List.map U8 a0.body)] 0]] 0]), (.int .i64 3, .fn (.func 141) [] [.ip [.fn (.func 134) [] [.ip [I a0.kind, I a0.seq, I a0.epoch, I a0.index, I a0.total, I a0.count, .sl false (List.map I a0.l), .sl false (List.map U8 a0.body)] 0]] 0, .ip [.fn (.func 138) [] [.ip [I a0.kind, I a0.seq, I a0.epoch, I a0.index, I a0.total, I a0.count, .sl false (List.map I a0.l), .sl false (List.map U8 a0.body)] 0]] 0]), (.int .i64 4, .fn (.func 142) [] [.ip [.fn (.func 134) [] [.ip [I a0.kind, I a0.seq, I a0.epoch, I a0.index, I a0.total, I a0.count, .sl false (List.map I a0.l), .sl false (List.map U8 a0.body)] 0]] 0, .ip [.fn (.func 135) [] [.ip [I a0.kind, I a0.seq, I a0.epoch, I a0.index, I a0.total, I a0.count, .sl false (List.map I a0.l), .sl false (List.map U8 a0.body)] 0]] 0, .ip [.fn (.func 138) [] [.ip [I a0.kind, I a0.seq, I a0.epoch, I a0.index, I a0.total, I a0.count, .sl false (List.map I a0.l), .sl false (List.map U8 a0.body)] 0]] 0]), (.int .i64 5, .fn (.func 143) [] [.ip [.fn (.func 134) [] [.ip [I a0.kind, I a0.seq, I a0.epoch, I a0.index, I a0.total, I a0.count, .sl false (List.map I a0.l), .sl false (List.map U8 a0.body)] 0]] 0, .ip [.fn (.func 138) [] [.ip [I a0.kind, I a0.seq, I a0.epoch, I a0.index, I a0.total, I a0.count, .sl false (List.map I a0.l), .sl false (List.map U8 a0.body)] 0]] 0, .ip [I a0.kind, I a0.seq, I a0.epoch, I a0.index, I a0.total, I a0.count, .sl false (List.map I a0.l), .sl false (List.map U8 a0.body)] 0]), (.int .i64 6, .fn (.func 144) [] [.ip [.fn (.func 134) [] [.ip [I a0.kind, I a0.seq, I a0.epoch, I a0.index, I a0.total, I a0.count, .sl false (List.map I a0.l), .sl false (List.map U8 a0.body)] 0]] 0, .ip [.fn (.func 136) [] [.ip [I a0.kind, I a0.seq, I a0.epoch, I a0.index, I a0.total, I a0.count, .sl false (List.map I a0.l), .sl false (List.map U8 a0.body)] 0]] 0])]))]), (1004, .look [[], [], [], [], [], [], [(2005, .off), (2010, .off)]]), (2003, .call [.pv .bool]), (2005, .fork [] [(2010, .off)]), (2008, .call [.pv .bool]), (2010, .fork [] []), (2013, .call [.pv .bool])] mixed Tryz.func92 rfl (by kernel_rfl) (by kernel_rfl)

/-- keep.Room -/
def P109 (a0 : Keep) (a1 : Int) (a2 : Int) (Φ : List RV → Prop) : Prop :=
 Fk (decide (a1 < 0))
 (Φ [.pv (I 0)])
 (Fk (decide (64 < a1))
 (Φ [.pv (I 0)])
 (Fk (decide (a2 < 0))
 (Φ [.pv (I 0)])
 (Fk (decide (a1 < a2))
 (Φ [.pv (I 0)])
 (Fk (decide (4611686018427387904 < a0.next))
 (Φ [.pv (I 0)])
 (Ln (List.map eItem a0.l) (Φ [.pv (I (imax 0 (w64 ((w64 (a1 - a2)) - ((List.map eItem a0.l).length : Int)))))]))))))
theorem t109 (a0 : Keep) (a1 : Int) (a2 : Int) {Φ : List RV → Prop} (h : P109 a0 a1 a2 Φ) : CtP Tryz.prog 109 [eKeep a0, I a1, I a2] Φ :=
  ctP_by h 1000 [(1002, .fork [(1010, .off), (1015, .off), (1019, .off), (1006, .off)] []), (1006, .fork [(1015, .off), (1019, .off), (1010, .off)] []), (1010, .fork [(1019, .off), (1015, .off)] []), (1015, .fork [(1019, .off)] []), (1019, .fork [] []), (3997, .lens [3])] mixed Tryz.func109 rfl (by kernel_rfl) (by kernel_rfl)

/-- keep.Push -/
def P66 (a0 : Keep) (a1 : Item) (a2 : Int) (a3 : Int) (Φ : List RV → Prop) : Prop :=
 Jn (fun v1 : Unit × (Int × Unit) × Unit × Unit × Unit =>
 ∃ x3, Cl 92 [.agg [I a1.kind, I v1.2.1.1, I a1.epoch, I a1.index, I a1.total, I a1.count, .sl false (List.map I a1.l), .sl false (List.map U8 a1.body)]] [.pv (B x3)] ∧
 Fk (!x3)
 (Φ [.pv (eKeep a0), .pv (.agg [I 0, I 0, I 0, I 0, I 0, I 0, .sl true [], .sl true []]), .pv (I 1)])
 (∃ x4, Cl 109 [eKeep a0, I a2, I a3] [.pv (I x4)] ∧
 Fk (x4 == 0)
 (Φ [.pv (eKeep a0), .pv (.agg [I 0, I 0, I 0, I 0, I 0, I 0, .sl true [], .sl true []]), .pv (I 4)])
 (Ln (List.map eItem a0.l) (St3 (List.map eItem a0.l) ((List.map eItem a0.l).length : Int) ((List.map eItem a0.l).length : Int) (
 Ok (okOld 8 (List.take (((List.map eItem a0.l).length : Int).toNat) (List.map eItem a0.l)) [.agg [I a1.kind, I v1.2.1.1, I a1.epoch, I a1.index, I a1.total, I a1.count, .sl false (List.map I a1.l), .sl false (List.map U8 a1.body)]]) (Sz ((List.take (((List.map eItem a0.l).length : Int).toNat) (List.map eItem a0.l)).length) 1 96 (
 Φ [.pv (.agg [I (w64 (a0.next + 1)), .sl false ((List.take (((List.map eItem a0.l).length : Int).toNat) (List.map eItem a0.l)) ++ [.agg [I a1.kind, I v1.2.1.1, I a1.epoch, I a1.index, I a1.total, I a1.count, .sl false (List.map I a1.l), .sl false (List.map U8 a1.body)]])]), .pv (.agg [I a1.kind, I v1.2.1.1, I a1.epoch, I a1.index, I a1.total, I a1.count, .sl false (List.map I a1.l), .sl false (List.map U8 a1.body)]), .pv (I 0)]))))))) (fun j2 =>
 (fun j2 : Unit × (Int × Unit) × Unit × Unit × Unit → Prop =>
 Fk (decide (4611686018427387904 < a0.next))
 (j2 ((), (1, ()), (), (), ()))
 (j2 ((), (a0.next, ()), (), (), ()))) (fun v => SmA (.pv (I a2)) ∧ SmA (.pv (I a3)) ∧ SmA (.bp 65568 0) ∧ SmA (.bp 65576 0) ∧ SmA (.bp 65600 0) ∧ SmA (.bp 65608 0) ∧ SmA (.pv (I a0.next)) ∧ SmA (.pv (.sl false (List.map eItem a0.l))) ∧ SmA (.pv (I a1.kind)) ∧ SmA (.pv (I a1.epoch)) ∧ SmA (.pv (I a1.index)) ∧ SmA (.pv (I a1.total)) ∧ SmA (.pv (I a1.count)) ∧ SmA (.pv (.sl false (List.map I a1.l))) ∧ SmA (.pv (.sl false (List.map U8 a1.body))) ∧ SmA (.pv (I 0)) ∧ SmA (.pv (.sl true [])) ∧ SmA (.pv (I 0)) ∧ SmA (.pv (I 0)) ∧ SmA (.pv (I 0)) ∧ SmA (.pv (I 0)) ∧ SmA (.pv (I 0)) ∧ SmA (.pv (I 0)) ∧ SmA (.pv (.sl true [])) ∧ SmA (.pv (.sl true [])) ∧ j2 v))
theorem t66 (a0 : Keep) (a1 : Item) (a2 : Int) (a3 : Int) {Φ : List RV → Prop} (h : P66 a0 a1 a2 a3 Φ) : CtP Tryz.prog 66 [eKeep a0, eItem a1, I a2, I a3] Φ :=
  ctP_by h 1000 [(2002, .fork [] []), (4001, .call [.pv .bool]), (4002, .fork [] []), (4998, .join [.k 2 (.pv (I a2)), .k 3 (.pv (I a3)), .k 4 (.bp 65568 0), .k 5 (.bp 65576 0), .k 8 (.bp 65600 0), .k 9 (.bp 65608 0), .box 65568 true [.k (.pv (I a0.next)), .k (.pv (.sl false (List.map eItem a0.l)))], .box 65576 true [.k (.pv (I a1.kind)), .h (.int .i64), .k (.pv (I a1.epoch)), .k (.pv (I a1.index)), .k (.pv (I a1.total)), .k (.pv (I a1.count)), .k (.pv (.sl false (List.map I a1.l))), .k (.pv (.sl false (List.map U8 a1.body)))], .box 65600 true [.k (.pv (I 0)), .k (.pv (.sl true []))], .box 65608 true [.k (.pv (I 0)), .k (.pv (I 0)), .k (.pv (I 0)), .k (.pv (I 0)), .k (.pv (I 0)), .k (.pv (I 0)), .k (.pv (.sl true [])), .k (.pv (.sl true []))]]), (6003, .call [.pv (.int .i64)]), (6004, .fork [] []), (8997, .lens [4]), (9004, .slc), (9007, .app false true)] mixed Tryz.func66 rfl (by kernel_rfl) (by kernel_rfl)

/-- rel.Send -/
def P20 (a0 : Rel) (a1 : Item) (a2 : Int) (a3 : Int) (Φ : List RV → Prop) : Prop :=
 ∃ x1 x2 x3, Cl 66 [eKeep a0.keep, eItem a1, I a2, I a3] [.pv (eKeep x1), .pv (eItem x2), .pv (I x3)] ∧
 Fk (x3 != 0)
 (Φ [.pv (eRel a0), .pv (.agg [I 0, I 0, I 0, I 0, I 0, I 0, I 0, I 0, .sl true [], .sl true [], I 0, I 0, I 0, I 0, .sl true []]), .pv (I x3)])
 (Φ [.pv (.agg [I a0.me, I a0.now, I x1.next, .sl false (List.map eItem x1.l), .sl false (List.map eWin a0.win), .sl false (List.map I a0.top), .sl false (List.map eAsk a0.ask), .sl false (List.map lI a0.have_), .sl false (List.map I a0.lost), I a0.naks]), .pv (.agg [I 1, I a0.me, I x2.kind, I x2.seq, I x2.epoch, I x2.index, I x2.total, I x2.count, .sl false (List.map I x2.l), .sl false (List.map U8 x2.body), I 0, I 0, I 0, I 0, .sl true []]), .pv (I 0)])
theorem t20 (a0 : Rel) (a1 : Item) (a2 : Int) (a3 : Int) {Φ : List RV → Prop} (h : P20 a0 a1 a2 a3 Φ) : CtP Tryz.prog 20 [eRel a0, eItem a1, I a2, I a3] Φ :=
  ctP_by h 1000 [(1005, .call [.pv (.ty Keep eKeep), .pv (.ty Item eItem), .pv (.int .i64)]), (2001, .fork [] [])] mixed Tryz.func20 rfl (by kernel_rfl) (by kernel_rfl)

/-- slices.Clone[[]int,int] -/
def P51 (a0 : List PV) (Φ : List RV → Prop) : Prop :=
 Nq a0
 (Φ [.pv (.sl true [])])
 (Ok (okNews 1 a0) (Sz 0 a0.length 8 (
 Φ [.fresh 3 1 a0])))
theorem t51 (a0 : List PV) {Φ : List RV → Prop} (h : P51 a0 Φ) : CtP Tryz.prog 51 [.sl false a0] Φ :=
  ctP_by h 1000 [(3002, .app true false)] mixed Tryz.func51 rfl (by kernel_rfl) (by kernel_rfl)

/-- keep.Get$1 -/
def P101a (b0 : Int) (b1 : Int) (Φ : List RV → Prop) : Prop :=
 Φ [.pv (B (b0 == b1))]
theorem t101a (b0 : Int) (b1 : Int) {Φ : List RV → Prop} (h : P101a b0 b1 Φ) : CtP Tryz.prog 101 [I b0, .ip [I b1] 0] Φ :=
  ctP_by h 1000 [] mixed Tryz.func101 rfl (by kernel_rfl) (by kernel_rfl)

/-- keep.place$1 -/
def P126a (b0 : Item) (b1 : Int) (Φ : List RV → Prop) : Prop :=
 ∃ x1, Cl 101 [I b0.seq, .ip [I b1] 0] [.pv (B x1)] ∧
 Φ [.pv (B x1)]
theorem t126a (b0 : Item) (b1 : Int) {Φ : List RV → Prop} (h : P126a b0 b1 Φ) : CtP Tryz.prog 126 [eItem b0, .ip [.fn (.func 101) [] [.ip [I b1] 0]] 0] Φ :=
  ctP_by h 1000 [(1003, .call [.pv .bool])] mixed Tryz.func126 rfl (by kernel_rfl) (by kernel_rfl)

/-- slices.IndexFunc[[]api.Item,api.Item] -/
def P125a (b0 : List PV) (b1 : Int) (Φ : List RV → Prop) : Prop :=
 Ln b0 (SmA (.pv (.sl false b0)) ∧ SmA (.pv (.fn (.func 126) [] [.ip [.fn (.func 101) [] [.ip [I b1] 0]] 0])) ∧ SmA (.pv (I (b0.length : Int))) ∧ Lo (fun (L2 : Int × Unit → Prop) (v1 : Int × Unit) =>
 Fk (decide (v1.1 < (b0.length : Int)))
 (Ix eItem b0 v1.1 fun x3 =>
 ∃ x4, Cl 126 [eItem x3, .ip [.fn (.func 101) [] [.ip [I b1] 0]] 0] [.pv (B x4)] ∧
 Fk x4
 (Φ [.pv (I v1.1)])
 (SmA (.pv (.sl false b0)) ∧ SmA (.pv (.fn (.func 126) [] [.ip [.fn (.func 101) [] [.ip [I b1] 0]] 0])) ∧ SmA (.pv (I (b0.length : Int))) ∧ L2 (w64 (v1.1 + 1), ())))
 (Φ [.pv (I (-1))])) (0, ()))
theorem t125a (b0 : List PV) (b1 : Int) {Φ : List RV → Prop} (h : P125a b0 b1 Φ) : CtP Tryz.prog 125 [.sl false b0, .fn (.func 126) [] [.ip [.fn (.func 101) [] [.ip [I b1] 0]] 0]] Φ :=
  ctP_by h 1000 [(1997, .lens [0]), (2000, .fork [] []), (2999, .loop [.k 0 (.pv (.sl false b0)), .k 1 (.pv (.fn (.func 126) [] [.ip [.fn (.func 101) [] [.ip [I b1] 0]] 0])), .k 7 (.pv (I (b0.length : Int))), .c 8 (.int .i64)]), (4003, .ix Item eItem), (4005, .callf [.pv .bool] [] [])] mixed Tryz.func125 rfl (by kernel_rfl) (by kernel_rfl)

/-- keep.place -/
def P100a (b0 : Keep) (b1 : Int) (Φ : List RV → Prop) : Prop :=
 ∃ x1, Cl 125 [.sl false (List.map eItem b0.l), .fn (.func 126) [] [.ip [.fn (.func 101) [] [.ip [I b1] 0]] 0]] [.pv (I x1)] ∧
 Φ [.pv (I x1)]
theorem t100a (b0 : Keep) (b1 : Int) {Φ : List RV → Prop} (h : P100a b0 b1 Φ) : CtP Tryz.prog 100 [eKeep b0, .fn (.func 101) [] [.ip [I b1] 0]] Φ :=
  ctP_by h 1000 [(1003, .call [.pv (.int .i64)])] mixed Tryz.func100 rfl (by kernel_rfl) (by kernel_rfl)

/-- keep.Get -/
def P46 (a0 : Keep) (a1 : Int) (Φ : List RV → Prop) : Prop :=
 ∃ x1, Cl 100 [eKeep a0, .fn (.func 101) [] [.ip [I a1] 0]] [.pv (I x1)] ∧
 Fk (decide (x1 < 0))
 (Φ [.pv (.agg [I 0, I 0, I 0, I 0, I 0, I 0, .sl true [], .sl true []]), .pv (B false)])
 (Ix eItem (List.map eItem a0.l) x1 fun x2 =>
 Φ [.pv (eItem x2), .pv (B true)])
theorem t46 (a0 : Keep) (a1 : Int) {Φ : List RV → Prop} (h : P46 a0 a1 Φ) : CtP Tryz.prog 46 [eKeep a0, I a1] Φ :=
  ctP_by h 1000 [(1002, .call [.pv (.int .i64)]), (2001, .fork [] []), (4003, .ix Item eItem)] mixed Tryz.func46 rfl (by kernel_rfl) (by kernel_rfl)

/-- slices.Index[[]int,int] -/
def P131 (a0 : List PV) (a1 : Int) (Φ : List RV → Prop) : Prop :=
 Ln a0 (SmA (.pv (.sl false a0)) ∧ SmA (.pv (I a1)) ∧ SmA (.pv (I (a0.length : Int))) ∧ Lo (fun (L2 : Int × Unit → Prop) (v1 : Int × Unit) =>
 Fk (decide (v1.1 < (a0.length : Int)))
 (Ix I a0 v1.1 fun x3 =>
 Fk (a1 == x3)
 (Φ [.pv (I v1.1)])
 (SmA (.pv (.sl false a0)) ∧ SmA (.pv (I a1)) ∧ SmA (.pv (I (a0.length : Int))) ∧ L2 (w64 (v1.1 + 1), ())))
 (Φ [.pv (I (-1))])) (0, ()))
theorem t131 (a0 : List PV) (a1 : Int) {Φ : List RV → Prop} (h : P131 a0 a1 Φ) : CtP Tryz.prog 131 [.sl false a0, I a1] Φ :=
  ctP_by h 1000 [(1997, .lens [0]), (2000, .fork [] []), (2999, .loop [.k 0 (.pv (.sl false a0)), .k 1 (.pv (I a1)), .k 7 (.pv (I (a0.length : Int))), .c 8 (.int .i64)]), (4003, .ix Int I), (4005, .fork [] [])] mixed Tryz.func131 rfl (by kernel_rfl) (by kernel_rfl)

/-- slices.Contains[[]int,int] -/
def P120 (a0 : List PV) (a1 : Int) (Φ : List RV → Prop) : Prop :=
 ∃ x1, Cl 131 [.sl false a0, I a1] [.pv (I x1)] ∧
 Φ [.pv (B (decide (0 ≤ x1)))]
theorem t120 (a0 : List PV) (a1 : Int) {Φ : List RV → Prop} (h : P120 a0 a1 Φ) : CtP Tryz.prog 120 [.sl false a0, I a1] Φ :=
  ctP_by h 1000 [(1002, .call [.pv (.int .i64)])] mixed Tryz.func120 rfl (by kernel_rfl) (by kernel_rfl)

/-- rel.lost -/
def P86 (a0 : Rel) (a1 : Int) (a2 : Int) (Φ : List RV → Prop) : Prop :=
 ∃ x1, Cl 51 [.sl false (List.map I a0.lost)] [.fresh 3 1 x1] ∧
 SmA (.pv (I a1)) ∧ SmA (.bp 65560 0) ∧ SmA (.bp 65584 0) ∧ SmA (.pv (I a2)) ∧ SmA (.pv (I a0.me)) ∧ SmA (.pv (I a0.now)) ∧ SmA (.pv (I a0.keep.next)) ∧ SmA (.pv (.sl false (List.map eItem a0.keep.l))) ∧ SmA (.pv (.sl false (List.map eWin a0.win))) ∧ SmA (.pv (.sl false (List.map I a0.top))) ∧ SmA (.pv (.sl false (List.map eAsk a0.ask))) ∧ SmA (.pv (.sl false (List.map lI a0.have_))) ∧ SmA (.pv (.sl false (List.map I a0.lost))) ∧ SmA (.pv (I a0.naks)) ∧ SmA (.pv (I 0)) ∧ SmA (.pv (I 0)) ∧ SmA (.pv (I 0)) ∧ SmA (.pv (.sl true [])) ∧ SmA (.pv (.sl true [])) ∧ SmA (.pv (.sl true [])) ∧ SmA (.pv (.sl true [])) ∧ SmA (.pv (.sl true [])) ∧ SmA (.pv (.sl true [])) ∧ SmA (.pv (I 0)) ∧ Lo (fun (L3 : List PV × Int × Unit × Unit × Unit → Prop) (v2 : List PV × Int × Unit × Unit × Unit) =>
 Fk (decide (v2.2.1 < a2))
 (Jn (fun v4 : List PV × Int × Unit × Unit × Unit =>
 SmA (.pv (I a1)) ∧ SmA (.bp 65560 0) ∧ SmA (.bp 65584 0) ∧ SmA (.pv (I a2)) ∧ SmA (.pv (I a0.me)) ∧ SmA (.pv (I a0.now)) ∧ SmA (.pv (I a0.keep.next)) ∧ SmA (.pv (.sl false (List.map eItem a0.keep.l))) ∧ SmA (.pv (.sl false (List.map eWin a0.win))) ∧ SmA (.pv (.sl false (List.map I a0.top))) ∧ SmA (.pv (.sl false (List.map eAsk a0.ask))) ∧ SmA (.pv (.sl false (List.map lI a0.have_))) ∧ SmA (.pv (.sl false (List.map I a0.lost))) ∧ SmA (.pv (I a0.naks)) ∧ SmA (.pv (I 0)) ∧ SmA (.pv (I 0)) ∧ SmA (.pv (I 0)) ∧ SmA (.pv (.sl true [])) ∧ SmA (.pv (.sl true [])) ∧ SmA (.pv (.sl true [])) ∧ SmA (.pv (.sl true [])) ∧ SmA (.pv (.sl true [])) ∧ SmA (.pv (.sl true [])) ∧ SmA (.pv (I 0)) ∧ L3 (v4.1, w64 (v4.2.1 + 1), (), (), ())) (fun j5 =>
 (fun j5 : List PV × Int × Unit × Unit × Unit → Prop =>
 ∃ x6 x7, Cl 46 [eKeep a0.keep, I (w64 (a1 + v2.2.1))] [.pv (eItem x6), .pv (B x7)] ∧
 Fk x7
 (∃ x8, Cl 120 [.sl false v2.1, I (w64 (a1 + v2.2.1))] [.pv (B x8)] ∧
 Fk (!x8)
 (Sz v2.1.length 1 8 (
 j5 (v2.1 ++ [I (w64 (a1 + v2.2.1))], v2.2.1, (), (), ())))
 (j5 (v2.1, v2.2.1, (), (), ())))
 (j5 (v2.1, v2.2.1, (), (), ()))) (fun v => SmA (.pv (I a1)) ∧ SmA (.bp 65560 0) ∧ SmA (.bp 65584 0) ∧ SmA (.pv (I a2)) ∧ SmA (.pv (I a0.me)) ∧ SmA (.pv (I a0.now)) ∧ SmA (.pv (I a0.keep.next)) ∧ SmA (.pv (.sl false (List.map eItem a0.keep.l))) ∧ SmA (.pv (.sl false (List.map eWin a0.win))) ∧ SmA (.pv (.sl false (List.map I a0.top))) ∧ SmA (.pv (.sl false (List.map eAsk a0.ask))) ∧ SmA (.pv (.sl false (List.map lI a0.have_))) ∧ SmA (.pv (.sl false (List.map I a0.lost))) ∧ SmA (.pv (I a0.naks)) ∧ SmA (.pv (I 0)) ∧ SmA (.pv (I 0)) ∧ SmA (.pv (I 0)) ∧ SmA (.pv (.sl true [])) ∧ SmA (.pv (.sl true [])) ∧ SmA (.pv (.sl true [])) ∧ SmA (.pv (.sl true [])) ∧ SmA (.pv (.sl true [])) ∧ SmA (.pv (.sl true [])) ∧ SmA (.pv (I 0)) ∧ j5 v)))
 (SrtOk Tryz.prog 121 ∧
 Zs v2.1 fun x9 =>
 Ln (List.map I (srt x9)) (Ph v2.1.length (imin (v2.1.length : Int) 64) (
 Pf (0 + ((imin (v2.1.length : Int) 64).toNat) ≤ ((List.map I (srt x9)).length)) (
 Φ [.pv (.agg [I a0.me, I a0.now, I a0.keep.next, .sl false (List.map eItem a0.keep.l), .sl false (List.map eWin a0.win), .sl false (List.map I a0.top), .sl false (List.map eAsk a0.ask), .sl false (List.map lI a0.have_), .sl false (List.take ((imin (v2.1.length : Int) 64).toNat) (List.drop 0 (List.map I (srt x9)))), I (imin (w64 (a0.naks + 1)) 1000)])]))))) (x1, 0, (), (), ())
theorem t86 (a0 : Rel) (a1 : Int) (a2 : Int) {Φ : List RV → Prop} (h : P86 a0 a1 a2 Φ) : CtP Tryz.prog 86 [eRel a0, I a1, I a2] Φ :=
  ctP_by h 1000 [(1002, .call [.row 3 1]), (3000, .fork [] []), (3999, .loop [.k 1 (.pv (I a1)), .k 3 (.bp 65560 0), .k 6 (.bp 65584 0), .r 7 3 1, .k 14 (.pv (I a2)), .c 15 (.int .i64), .box 65560 true [.k (.pv (I a0.me)), .k (.pv (I a0.now)), .k (.pv (I a0.keep.next)), .k (.pv (.sl false (List.map eItem a0.keep.l))), .k (.pv (.sl false (List.map eWin a0.win))), .k (.pv (.sl false (List.map I a0.top))), .k (.pv (.sl false (List.map eAsk a0.ask))), .k (.pv (.sl false (List.map lI a0.have_))), .k (.pv (.sl false (List.map I a0.lost))), .k (.pv (I a0.naks))], .box 65584 true [.k (.pv (I 0)), .k (.pv (I 0)), .k (.pv (I 0)), .k (.pv (.sl true [])), .k (.pv (.sl true [])), .k (.pv (.sl true [])), .k (.pv (.sl true [])), .k (.pv (.sl true [])), .k (.pv (.sl true [])), .k (.pv (I 0))]]), (5005, .call [.pv (.ty Item eItem), .pv .bool]), (6001, .fork [] [(6008, .off)]), (6006, .call [.pv .bool]), (6008, .fork [] []), (7005, .app false false), (8998, .join [.k 1 (.pv (I a1)), .k 3 (.bp 65560 0), .k 6 (.bp 65584 0), .r 7 3 1, .k 14 (.pv (I a2)), .c 15 (.int .i64), .box 65560 true [.k (.pv (I a0.me)), .k (.pv (I a0.now)), .k (.pv (I a0.keep.next)), .k (.pv (.sl false (List.map eItem a0.keep.l))), .k (.pv (.sl false (List.map eWin a0.win))), .k (.pv (.sl false (List.map I a0.top))), .k (.pv (.sl false (List.map eAsk a0.ask))), .k (.pv (.sl false (List.map lI a0.have_))), .k (.pv (.sl false (List.map I a0.lost))), .k (.pv (I a0.naks))], .box 65584 true [.k (.pv (I 0)), .k (.pv (I 0)), .k (.pv (I 0)), .k (.pv (.sl true [])), .k (.pv (.sl true [])), .k (.pv (.sl true [])), .k (.pv (.sl true [])), .k (.pv (.sl true [])), .k (.pv (.sl true [])), .k (.pv (I 0))]]), (9001, .srt), (10004, .slf), (10997, .lens [7])] mixed Tryz.func86 rfl (by kernel_rfl) (by kernel_rfl)

/-- win.Gap -/
def P48 (a0 : Win) (a1 : Int) (Φ : List RV → Prop) : Prop :=
 Jn (fun v1 : Int × Int × Unit × Unit =>
 Fk (decide ((imin a1 4611686018427387904) < v1.1))
 (Φ [.pv (I 0), .pv (I 0)])
 (Jn (fun v3 : Int × Int × Unit =>
 Φ [.pv (I v3.2.1), .pv (I (imin (w64 ((w64 (v3.1 - v3.2.1)) + 1)) 64))]) (fun j4 =>
 Ln (List.map eItem a0.l) (Fk (decide (v1.2.1 < ((List.map eItem a0.l).length : Int)))
 (Ix eItem (List.map eItem a0.l) v1.2.1 fun x5 =>
 j4 (imin (imin a1 4611686018427387904) (w64 (x5.seq - 1)), v1.1, ()))
 (j4 (imin a1 4611686018427387904, v1.1, ())))))) (fun j2 =>
 (fun j2 : Int × Int × Unit × Unit → Prop =>
 SmA (.pv (I (imin a1 4611686018427387904))) ∧ SmA (.bp 65552 0) ∧ SmA (.pv (I a0.next)) ∧ SmA (.pv (.sl false (List.map eItem a0.l))) ∧ Lo (fun (L7 : Int × Int × Unit × Unit → Prop) (v6 : Int × Int × Unit × Unit) =>
 Ln (List.map eItem a0.l) (Fk (decide (v6.2.1 < ((List.map eItem a0.l).length : Int)))
 (Ix eItem (List.map eItem a0.l) v6.2.1 fun x8 =>
 Fk (x8.seq == v6.1)
 (SmA (.pv (I (imin a1 4611686018427387904))) ∧ SmA (.bp 65552 0) ∧ SmA (.pv (I a0.next)) ∧ SmA (.pv (.sl false (List.map eItem a0.l))) ∧ L7 (w64 (v6.1 + 1), w64 (v6.2.1 + 1), (), ()))
 (j2 (v6.1, v6.2.1, (), ())))
 (j2 (v6.1, v6.2.1, (), ())))) (a0.next, 0, (), ())) (fun v => SmA (.pv (I (imin a1 4611686018427387904))) ∧ SmA (.bp 65552 0) ∧ SmA (.pv (I a0.next)) ∧ SmA (.pv (.sl false (List.map eItem a0.l))) ∧ j2 v))
theorem t48 (a0 : Win) (a1 : Int) {Φ : List RV → Prop} (h : P48 a0 a1 Φ) : CtP Tryz.prog 48 [eWin a0, I a1] Φ :=
  ctP_by h 1000 [(4005, .fork [] [(4014, .off)]), (4009, .ix Item eItem), (4014, .fork [] []), (4997, .lens [2]), (4999, .loop [.k 1 (.pv (I (imin a1 4611686018427387904))), .k 2 (.bp 65552 0), .c 6 (.int .i64), .c 7 (.int .i64), .box 65552 true [.k (.pv (I a0.next)), .k (.pv (.sl false (List.map eItem a0.l)))]]), (7002, .fork [] []), (7998, .join [.k 1 (.pv (I (imin a1 4611686018427387904))), .k 2 (.bp 65552 0), .c 6 (.int .i64), .c 7 (.int .i64), .box 65552 true [.k (.pv (I a0.next)), .k (.pv (.sl false (List.map eItem a0.l)))]]), (9004, .fork [] []), (9997, .lens [2]), (10004, .ix Item eItem), (11998, .join [.c 1 (.int .i64), .c 6 (.int .i64)])] mixed Tryz.func48 rfl (by kernel_rfl) (by kernel_rfl)

/-- ask.Hush -/
def P87 (a0 : Ask) (a1 : Int) (a2 : Int) (Φ : List RV → Prop) : Prop :=
 Jn (fun v1 : (Int × Unit) × Unit × Unit =>
 Φ [.pv (.agg [I v1.1.1])]) (fun j2 =>
 (fun j2 : (Int × Unit) × Unit × Unit → Prop =>
 Fk (a0.due != 0)
 (j2 ((imax a0.due (w64 (a1 + a2)), ()), (), ()))
 (j2 ((a0.due, ()), (), ()))) (fun v => SmA (.bp 65560 0) ∧ SmA (.bp 65584 0) ∧ SmA (.pv (I 0)) ∧ j2 v))
theorem t87 (a0 : Ask) (a1 : Int) (a2 : Int) {Φ : List RV → Prop} (h : P87 a0 a1 a2 Φ) : CtP Tryz.prog 87 [eAsk a0, I a1, I a2] Φ :=
  ctP_by h 1000 [(1002, .fork [] []), (3998, .join [.k 3 (.bp 65560 0), .k 6 (.bp 65584 0), .box 65560 true [.h (.int .i64)], .box 65584 true [.k (.pv (I 0))]])] mixed Tryz.func87 rfl (by kernel_rfl) (by kernel_rfl)

/-- slices.Clone[[]api.Ask,api.Ask] -/
def P104 (a0 : List PV) (Φ : List RV → Prop) : Prop :=
 Nq a0
 (Φ [.pv (.sl true [])])
 (Ok (okNews 1 a0) (Sz 0 a0.length 8 (
 Φ [.fresh 67 1 a0])))
theorem t104 (a0 : List PV) {Φ : List RV → Prop} (h : P104 a0 Φ) : CtP Tryz.prog 104 [.sl false a0] Φ :=
  ctP_by h 1000 [(3002, .app true false)] mixed Tryz.func104 rfl (by kernel_rfl) (by kernel_rfl)

/-- rel.set[api.Ask] -/
def P50 (a0 : List PV) (a1 : Int) (a2 : Ask) (Φ : List RV → Prop) : Prop :=
 ∃ x1, Cl 104 [.sl false a0] [.fresh 67 1 x1] ∧
 Rx a1 x1.length (
 Ld eAsk x1 (0 + a1.toNat) fun x2 =>
 Φ [.fresh 67 1 (x1.set (0 + a1.toNat) (eAsk a2))])
theorem t50 (a0 : List PV) (a1 : Int) (a2 : Ask) {Φ : List RV → Prop} (h : P50 a0 a1 a2 Φ) : CtP Tryz.prog 50 [.sl false a0, I a1, eAsk a2] Φ :=
  ctP_by h 1000 [(1001, .call [.row 67 1]), (2003, .ixr), (2004, .st Ask eAsk)] mixed Tryz.func50 rfl (by kernel_rfl) (by kernel_rfl)

/-- rel.asked -/
def P32 (a0 : Rel) (a1 : Packet) (a2 : Int) (Φ : List RV → Prop) : Prop :=
 Fk (a1.to_ == a0.me)
 (∃ x1, Cl 86 [eRel a0, I a1.lo, I a1.many] [.pv (eRel x1)] ∧
 Φ [.pv (eRel x1)])
 (Ix eWin (List.map eWin a0.win) a1.to_ fun x2 =>
 Ix I (List.map I a0.top) a1.to_ fun x3 =>
 ∃ x4 x5, Cl 48 [eWin x2, I x3] [.pv (I x4), .pv (I x5)] ∧
 Jn (fun v6 : ((List PV) × Unit) × Unit × Unit =>
 Φ [.pv (.agg [I a0.me, I a0.now, I a0.keep.next, .sl false (List.map eItem a0.keep.l), .sl false (List.map eWin a0.win), .sl false (List.map I a0.top), .sl false v6.1.1, .sl false (List.map lI a0.have_), .sl false (List.map I a0.lost), I a0.naks])]) (fun j7 =>
 (fun j7 : ((List PV) × Unit) × Unit × Unit → Prop =>
 Fk (decide (0 < x5))
 (Fk (decide (a1.lo ≤ x4))
 (Fk (decide ((w64 (x4 - a1.lo)) < a1.many))
 (Ix eAsk (List.map eAsk a0.ask) a1.to_ fun x8 =>
 ∃ x9, Cl 87 [eAsk x8, I a0.now, I a2] [.pv (eAsk x9)] ∧
 ∃ x10, Cl 50 [.sl false (List.map eAsk a0.ask), I a1.to_, eAsk x9] [.pv (.sl false (List.map eAsk x10))] ∧
 j7 ((List.map eAsk x10, ()), (), ()))
 (j7 ((List.map eAsk a0.ask, ()), (), ())))
 (j7 ((List.map eAsk a0.ask, ()), (), ())))
 (j7 ((List.map eAsk a0.ask, ()), (), ()))) (fun v => SmA (.bp 65560 0) ∧ SmA (.bp 65584 0) ∧ SmA (.pv (I a0.me)) ∧ SmA (.pv (I a0.now)) ∧ SmA (.pv (I a0.keep.next)) ∧ SmA (.pv (.sl false (List.map eItem a0.keep.l))) ∧ SmA (.pv (.sl false (List.map eWin a0.win))) ∧ SmA (.pv (.sl false (List.map I a0.top))) ∧ SmA (.pv (.sl false (List.map lI a0.have_))) ∧ SmA (.pv (.sl false (List.map I a0.lost))) ∧ SmA (.pv (I a0.naks)) ∧ SmA (.pv (I 0)) ∧ SmA (.pv (I 0)) ∧ SmA (.pv (I 0)) ∧ SmA (.pv (.sl true [])) ∧ SmA (.pv (.sl true [])) ∧ SmA (.pv (.sl true [])) ∧ SmA (.pv (.sl true [])) ∧ SmA (.pv (.sl true [])) ∧ SmA (.pv (.sl true [])) ∧ SmA (.pv (I 0)) ∧ j7 v)))
theorem t32 (a0 : Rel) (a1 : Packet) (a2 : Int) {Φ : List RV → Prop} (h : P32 a0 a1 a2 Φ) : CtP Tryz.prog 32 [eRel a0, ePacket a1, I a2] Φ :=
  ctP_by h 1000 [(1004, .fork [] []), (2005, .call [.pv (.ty Rel eRel)]), (3004, .ix Win eWin), (3010, .ix Int I), (3012, .call [.pv (.int .i64), .pv (.int .i64)]), (4002, .fork [] [(4008, .off), (4016, .off)]), (4008, .fork [] [(4016, .off)]), (4016, .fork [] []), (5008, .ix Ask eAsk), (5013, .call [.pv (.ty Ask eAsk)]), (5014, .call [.pv (.ty (List Ask) lAsk)]), (6998, .join [.k 3 (.bp 65560 0), .k 6 (.bp 65584 0), .box 65560 true [.k (.pv (I a0.me)), .k (.pv (I a0.now)), .k (.pv (I a0.keep.next)), .k (.pv (.sl false (List.map eItem a0.keep.l))), .k (.pv (.sl false (List.map eWin a0.win))), .k (.pv (.sl false (List.map I a0.top))), .h .sl, .k (.pv (.sl false (List.map lI a0.have_))), .k (.pv (.sl false (List.map I a0.lost))), .k (.pv (I a0.naks))], .box 65584 true [.k (.pv (I 0)), .k (.pv (I 0)), .k (.pv (I 0)), .k (.pv (.sl true [])), .k (.pv (.sl true [])), .k (.pv (.sl true [])), .k (.pv (.sl true [])), .k (.pv (.sl true [])), .k (.pv (.sl true [])), .k (.pv (I 0))]])] mixed Tryz.func32 rfl (by kernel_rfl) (by kernel_rfl)

/-- rel.set[int] -/
def P88 (a0 : List PV) (a1 : Int) (a2 : Int) (Φ : List RV → Prop) : Prop :=
 ∃ x1, Cl 51 [.sl false a0] [.fresh 3 1 x1] ∧
 Rx a1 x1.length (
 Ld I x1 (0 + a1.toNat) fun x2 =>
 Φ [.fresh 3 1 (x1.set (0 + a1.toNat) (I a2))])
theorem t88 (a0 : List PV) (a1 : Int) (a2 : Int) {Φ : List RV → Prop} (h : P88 a0 a1 a2 Φ) : CtP Tryz.prog 88 [.sl false a0, I a1, I a2] Φ :=
  ctP_by h 1000 [(1001, .call [.row 3 1]), (2003, .ixr), (2004, .st Int I)] mixed Tryz.func88 rfl (by kernel_rfl) (by kernel_rfl)

/-- rel.top -/
def P33 (a0 : Rel) (a1 : Int) (a2 : Int) (Φ : List RV → Prop) : Prop :=
 Ix I (List.map I a0.top) a1 fun x1 =>
 ∃ x2, Cl 88 [.sl false (List.map I a0.top), I a1, I (imax x1 a2)] [.pv (.sl false (List.map I x2))] ∧
 Φ [.pv (.agg [I a0.me, I a0.now, I a0.keep.next, .sl false (List.map eItem a0.keep.l), .sl false (List.map eWin a0.win), .sl false (List.map I x2), .sl false (List.map eAsk a0.ask), .sl false (List.map lI a0.have_), .sl false (List.map I a0.lost), I a0.naks])]
theorem t33 (a0 : Rel) (a1 : Int) (a2 : Int) {Φ : List RV → Prop} (h : P33 a0 a1 a2 Φ) : CtP Tryz.prog 33 [eRel a0, I a1, I a2] Φ :=
  ctP_by h 1000 [(1006, .ix Int I), (1010, .call [.pv (.ty (List Int) lI)])] mixed Tryz.func33 rfl (by kernel_rfl) (by kernel_rfl)

/-- vec.at -/
def P107 (a0 : List PV) (a1 : Int) (Φ : List RV → Prop) : Prop :=
 Ln a0 (Fk (decide (a1 < 0))
 (Φ [.pv (I 0)])
 (Fk (decide ((a0.length : Int) ≤ a1))
 (Φ [.pv (I 0)])
 (Ix I a0 a1 fun x1 =>
 Φ [.pv (I x1)])))
theorem t107 (a0 : List PV) (a1 : Int) {Φ : List RV → Prop} (h : P107 a0 a1 Φ) : CtP Tryz.prog 107 [.sl false a0, I a1] Φ :=
  ctP_by h 1000 [(1002, .fork [(1007, .off)] []), (1007, .fork [] []), (1997, .lens [0]), (3002, .ix Int I)] mixed Tryz.func107 rfl (by kernel_rfl) (by kernel_rfl)

/-- vec.Max$1 -/
def P91 (a0 : Int) (a1 : Int) (Φ : List RV → Prop) : Prop :=
 Φ [.pv (I (imax a0 a1))]
theorem t91 (a0 : Int) (a1 : Int) {Φ : List RV → Prop} (h : P91 a0 a1 Φ) : CtP Tryz.prog 91 [I a0, I a1] Φ :=
  ctP_by h 1000 [] mixed Tryz.func91 rfl (by kernel_rfl) (by kernel_rfl)

/-- vec.join[int] -/
def P90a (b0 : List PV) (b1 : List PV) (Φ : List RV → Prop) : Prop :=
 Ln b0 (Ln b1 (Mk 8 (imax (b0.length : Int) (b1.length : Int)) (imax (b0.length : Int) (b1.length : Int)) (
 Ln (List.replicate ((imax (b0.length : Int) (b1.length : Int)).toNat) (I 0)) (SmA (.pv (.sl false b0)) ∧ SmA (.pv (.sl false b1)) ∧ SmA (.pv (.fn (.func 91) [] [])) ∧ SmA (.pv (I ((imax (b0.length : Int) (b1.length : Int)).toNat : Int))) ∧ Lo (fun (L2 : List PV × Int × Unit → Prop) (v1 : List PV × Int × Unit) =>
 Fk (decide (v1.2.1 < ((imax (b0.length : Int) (b1.length : Int)).toNat : Int)))
 (∃ x3, Cl 107 [.sl false b0, I v1.2.1] [.pv (I x3)] ∧
 ∃ x4, Cl 107 [.sl false b1, I v1.2.1] [.pv (I x4)] ∧
 ∃ x5, Cl 91 [I x3, I x4] [.pv (I x5)] ∧
 Rx v1.2.1 v1.1.length (
 Ld I v1.1 (0 + v1.2.1.toNat) fun x6 =>
 SmA (.pv (.sl false b0)) ∧ SmA (.pv (.sl false b1)) ∧ SmA (.pv (.fn (.func 91) [] [])) ∧ SmA (.pv (I ((imax (b0.length : Int) (b1.length : Int)).toNat : Int))) ∧ L2 (v1.1.set (0 + v1.2.1.toNat) (I x5), w64 (v1.2.1 + 1), ())))
 (Φ [.fresh 3 1 v1.1])) (List.replicate ((imax (b0.length : Int) (b1.length : Int)).toNat) (I 0), 0, ())))))
theorem t90a (b0 : List PV) (b1 : List PV) {Φ : List RV → Prop} (h : P90a b0 b1 Φ) : CtP Tryz.prog 90 [.sl false b0, .sl false b1, .fn (.func 91) [] []] Φ :=
  ctP_by h 1000 [(1005, .mk), (1997, .lens [0, 1]), (2997, .lens [7]), (3000, .fork [] []), (3999, .loop [.k 0 (.pv (.sl false b0)), .k 1 (.pv (.sl false b1)), .k 2 (.pv (.fn (.func 91) [] [])), .r 7 3 1, .k 16 (.pv (I ((imax (b0.length : Int) (b1.length : Int)).toNat : Int))), .c 17 (.int .i64)]), (5005, .call [.pv (.int .i64)]), (5008, .call [.pv (.int .i64)]), (5009, .call [.pv (.int .i64)]), (5010, .ixr), (5011, .st Int I)] mixed Tryz.func90 rfl (by kernel_rfl) (by kernel_rfl)

/-- vec.Max -/
def P35 (a0 : List PV) (a1 : List PV) (Φ : List RV → Prop) : Prop :=
 ∃ x1, Cl 90 [.sl false a0, .sl false a1, .fn (.func 91) [] []] [.pv (.sl false (List.map I x1))] ∧
 Φ [.pv (.sl false (List.map I x1))]
theorem t35 (a0 : List PV) (a1 : List PV) {Φ : List RV → Prop} (h : P35 a0 a1 Φ) : CtP Tryz.prog 35 [.sl false a0, .sl false a1] Φ :=
  ctP_by h 1000 [(1002, .call [.pv (.ty (List Int) lI)])] mixed Tryz.func35 rfl (by kernel_rfl) (by kernel_rfl)

/-- slices.Clone[[][]int,[]int] -/
def P89 (a0 : List PV) (Φ : List RV → Prop) : Prop :=
 Nq a0
 (Φ [.pv (.sl true [])])
 (Ok (okNews 1 a0) (Sz 0 a0.length 24 (
 Φ [.fresh 26 1 a0])))
theorem t89 (a0 : List PV) {Φ : List RV → Prop} (h : P89 a0 Φ) : CtP Tryz.prog 89 [.sl false a0] Φ :=
  ctP_by h 1000 [(3002, .app true false)] mixed Tryz.func89 rfl (by kernel_rfl) (by kernel_rfl)

/-- rel.set[[]int] -/
def P34 (a0 : List PV) (a1 : Int) (a2 : List PV) (Φ : List RV → Prop) : Prop :=
 ∃ x1, Cl 89 [.sl false a0] [.fresh 26 1 x1] ∧
 Rx a1 x1.length (
 Ld lI x1 (0 + a1.toNat) fun x2 =>
 Φ [.fresh 26 1 (x1.set (0 + a1.toNat) (.sl false a2))])
theorem t34 (a0 : List PV) (a1 : Int) (a2 : List PV) {Φ : List RV → Prop} (h : P34 a0 a1 a2 Φ) : CtP Tryz.prog 34 [.sl false a0, I a1, .sl false a2] Φ :=
  ctP_by h 1000 [(1001, .call [.row 26 1]), (2003, .ixr), (2004, .st (List Int) lI)] mixed Tryz.func34 rfl (by kernel_rfl) (by kernel_rfl)

/-- win.place -/
def P93 (a0 : Win) (a1 : Int) (Φ : List RV → Prop) : Prop :=
 Jn (fun u1 : Int × Unit × Unit => Lo (fun (L3 : Int × Unit × Unit → Prop) (v2 : Int × Unit × Unit) =>
 Ln (List.map eItem a0.l) (Fk (decide (v2.1 < ((List.map eItem a0.l).length : Int)))
 (Ix eItem (List.map eItem a0.l) v2.1 fun x5 =>
 Fk (decide (x5.seq < a1))
 (SmA (.pv (I a1)) ∧ SmA (.bp 65552 0) ∧ SmA (.pv (I a0.next)) ∧ SmA (.pv (.sl false (List.map eItem a0.l))) ∧ L3 (w64 (v2.1 + 1), (), ()))
 (Fk (decide (v2.1 < ((List.map eItem a0.l).length : Int)))
 (Ix eItem (List.map eItem a0.l) v2.1 fun x6 =>
 Φ [.pv (I v2.1), .pv (B (x6.seq == a1))])
 (Φ [.pv (I v2.1), .pv (B false)])))
 (Fk (decide (v2.1 < ((List.map eItem a0.l).length : Int)))
 (Ix eItem (List.map eItem a0.l) v2.1 fun x7 =>
 Φ [.pv (I v2.1), .pv (B (x7.seq == a1))])
 (Φ [.pv (I v2.1), .pv (B false)])))) u1) (fun j4 =>
 Ln (List.map eItem a0.l) (Fk (decide (0 < ((List.map eItem a0.l).length : Int)))
 (Ix eItem (List.map eItem a0.l) 0 fun x8 =>
 Fk (decide (x8.seq < a1))
 (SmA (.pv (I a1)) ∧ SmA (.bp 65552 0) ∧ SmA (.pv (I a0.next)) ∧ SmA (.pv (.sl false (List.map eItem a0.l))) ∧ j4 (1, (), ()))
 (Fk (decide (0 < ((List.map eItem a0.l).length : Int)))
 (Ix eItem (List.map eItem a0.l) 0 fun x9 =>
 Φ [.pv (I 0), .pv (B (x9.seq == a1))])
 (Φ [.pv (I 0), .pv (B false)])))
 (Fk (decide (0 < ((List.map eItem a0.l).length : Int)))
 (Ix eItem (List.map eItem a0.l) 0 fun x10 =>
 Φ [.pv (I 0), .pv (B (x10.seq == a1))])
 (Φ [.pv (I 0), .pv (B false)]))))
theorem t93 (a0 : Win) (a1 : Int) {Φ : List RV → Prop} (h : P93 a0 a1 Φ) : CtP Tryz.prog 93 [eWin a0, I a1] Φ :=
  ctP_by h 1000 [(1996, .scope 0 [.k 1 (.pv (I a1)), .k 2 (.bp 65552 0), .c 6 (.int .i64), .box 65552 true [.k (.pv (I a0.next)), .k (.pv (.sl false (List.map eItem a0.l)))]]), (2005, .fork [] [(2014, .off)]), (2009, .ix Item eItem), (2014, .fork [] []), (2997, .lens [2]), (4006, .fork [] []), (4010, .ix Item eItem)] mixed Tryz.func93 rfl (by kernel_rfl) (by kernel_rfl)

/-- slices.Grow[[]api.Item,api.Item] -/
def P145a (b0 : Int) (Φ : List RV → Prop) : Prop :=
 Fk (decide (b0 < 0))
 (False)
 (Jn (fun v1 : List PV × Unit =>
 Φ [.fresh 33 8 v1.1]) (fun j2 =>
 Fk (decide (0 < (w64 (b0 - 0))))
 (Az 96 (w64 (b0 - 0)) (
 j2 ([], ())))
 (j2 ([], ()))))
theorem t145a (b0 : Int) {Φ : List RV → Prop} (h : P145a b0 Φ) : CtP Tryz.prog 145 [.sl true [], I b0] Φ :=
  ctP_by h 1000 [(1001, .fork [] []), (4001, .fork [] []), (5005, .appz), (5008, .trn), (6998, .join [.r 0 33 8])] mixed Tryz.func145 rfl (by kernel_rfl) (by kernel_rfl)

/-- slices.Concat[[]api.Item,api.Item] -/
def P124 (a0 : List PV) (Φ : List RV → Prop) : Prop :=
 Ln a0 (SmA (.pv (.sl false a0)) ∧ SmA (.pv (.sl false a0)) ∧ SmA (.pv (I (a0.length : Int))) ∧ Lo (fun (L2 : Int × Int × Unit → Prop) (v1 : Int × Int × Unit) =>
 Fk (decide (v1.2.1 < (a0.length : Int)))
 (Ix lItem a0 v1.2.1 fun x3 =>
 Ln (List.map eItem x3) (Fk (decide ((w64 (v1.1 + ((List.map eItem x3).length : Int))) < 0))
 (False)
 (SmA (.pv (.sl false a0)) ∧ SmA (.pv (.sl false a0)) ∧ SmA (.pv (I (a0.length : Int))) ∧ L2 (w64 (v1.1 + ((List.map eItem x3).length : Int)), w64 (v1.2.1 + 1), ()))))
 (∃ x4, Cl 145 [.sl true [], I v1.1] [.fresh 33 8 x4] ∧
 SmA (.pv (.sl false a0)) ∧ SmA (.pv (I (a0.length : Int))) ∧ Lo (fun (L6 : List PV × Int × Unit → Prop) (v5 : List PV × Int × Unit) =>
 Fk (decide (v5.2.1 < (a0.length : Int)))
 (Ix lItem a0 v5.2.1 fun x7 =>
 Ok (okNews 8 (List.map eItem x7)) (Sz v5.1.length ((List.map eItem x7).length) 96 (
 SmA (.pv (.sl false a0)) ∧ SmA (.pv (I (a0.length : Int))) ∧ L6 (v5.1 ++ (List.map eItem x7), w64 (v5.2.1 + 1), ()))))
 (Φ [.fresh 33 8 v5.1])) (x4, 0, ()))) (0, 0, ()))
theorem t124 (a0 : List PV) {Φ : List RV → Prop} (h : P124 a0 Φ) : CtP Tryz.prog 124 [.sl false a0] Φ :=
  ctP_by h 1000 [(2997, .lens [0]), (3000, .fork [] []), (3999, .loop [.k 0 (.pv (.sl false a0)), .c 3 (.int .i64), .k 9 (.pv (.sl false a0)), .k 10 (.pv (I (a0.length : Int))), .c 11 (.int .i64)]), (4000, .ix (List Item) lItem), (5997, .lens [5]), (6001, .fork [] []), (9001, .call [.row 33 8]), (11000, .fork [] []), (11999, .loop [.r 6 33 8, .k 25 (.pv (.sl false a0)), .k 26 (.pv (I (a0.length : Int))), .c 27 (.int .i64)]), (12000, .ix (List Item) lItem), (13002, .app true false)] mixed Tryz.func124 rfl (by kernel_rfl) (by kernel_rfl)

/-- win.laid -/
def P94 (a0 : List PV) (Φ : List RV → Prop) : Prop :=
 ∃ x1, Cl 124 [.sl false a0] [.fresh 33 8 x1] ∧
 Φ [.fresh 33 8 x1]
theorem t94 (a0 : List PV) {Φ : List RV → Prop} (h : P94 a0 Φ) : CtP Tryz.prog 94 [.sl false a0] Φ :=
  ctP_by h 1000 [(1001, .call [.row 33 8])] mixed Tryz.func94 rfl (by kernel_rfl) (by kernel_rfl)

/-- win.Put -/
def P36 (a0 : Win) (a1 : Item) (a2 : Int) (Φ : List RV → Prop) : Prop :=
 Ln (List.map eItem a0.l) (∃ x1, Cl 92 [eItem a1] [.pv (B x1)] ∧
 Fk (!x1)
 (Φ [.pv (eWin a0), .pv (B false)])
 (Fk (decide (a1.seq < a0.next))
 (Φ [.pv (eWin a0), .pv (B false)])
 (Fk (decide (a2 < a1.seq))
 (Φ [.pv (eWin a0), .pv (B false)])
 (Fk (decide (64 ≤ ((List.map eItem a0.l).length : Int)))
 (Φ [.pv (eWin a0), .pv (B false)])
 (∃ x2 x3, Cl 93 [eWin a0, I a1.seq] [.pv (I x2), .pv (B x3)] ∧
 Fk x3
 (Φ [.pv (eWin a0), .pv (B false)])
 (St1 (List.map eItem a0.l) x2 (
 Sd 8 (List.map eItem a0.l) x2 (
 ∃ x4, Cl 94 [.sl false [.sl false (List.take x2.toNat (List.map eItem a0.l)), .sl false [eItem a1], .sl false (List.drop x2.toNat (List.map eItem a0.l))]] [.fresh 33 8 x4] ∧
 Φ [.pv (.agg [I a0.next, .sl false x4]), .pv (B true)]))))))))
theorem t36 (a0 : Win) (a1 : Item) (a2 : Int) {Φ : List RV → Prop} (h : P36 a0 a1 a2 Φ) : CtP Tryz.prog 36 [eWin a0, eItem a1, I a2] Φ :=
  ctP_by h 1000 [(1001, .call [.pv .bool]), (1003, .fork [(1016, .off), (1021, .off), (1010, .off)] []), (1010, .fork [(1021, .off), (1016, .off)] []), (1016, .fork [(1021, .off)] []), (1021, .fork [] []), (1997, .lens [3]), (3003, .call [.pv (.int .i64), .pv .bool]), (4000, .fork [] []), (6003, .slc), (6009, .slc), (6011, .call [.row 33 8])] mixed Tryz.func36 rfl (by kernel_rfl) (by kernel_rfl)

/-- slices.Clone[[]api.Win,api.Win] -/
def P95 (a0 : List PV) (Φ : List RV → Prop) : Prop :=
 Nq a0
 (Φ [.pv (.sl true [])])
 (Ok (okNews 2 a0) (Sz 0 a0.length 32 (
 Φ [.fresh 62 2 a0])))
theorem t95 (a0 : List PV) {Φ : List RV → Prop} (h : P95 a0 Φ) : CtP Tryz.prog 95 [.sl false a0] Φ :=
  ctP_by h 1000 [(3002, .app true false)] mixed Tryz.func95 rfl (by kernel_rfl) (by kernel_rfl)

/-- rel.set[api.Win] -/
def P37 (a0 : List PV) (a1 : Int) (a2 : Win) (Φ : List RV → Prop) : Prop :=
 ∃ x1, Cl 95 [.sl false a0] [.fresh 62 2 x1] ∧
 Rx a1 x1.length (
 Ld eWin x1 (0 + a1.toNat) fun x2 =>
 Φ [.fresh 62 2 (x1.set (0 + a1.toNat) (eWin a2))])
theorem t37 (a0 : List PV) (a1 : Int) (a2 : Win) {Φ : List RV → Prop} (h : P37 a0 a1 a2 Φ) : CtP Tryz.prog 37 [.sl false a0, I a1, eWin a2] Φ :=
  ctP_by h 1000 [(1001, .call [.row 62 2]), (2003, .ixr), (2004, .st Win eWin)] mixed Tryz.func37 rfl (by kernel_rfl) (by kernel_rfl)

/-- rel.Hear -/
def P11 (a0 : Rel) (a1 : Packet) (a2 : List PV) (a3 : Int) (a4 : Int) (Φ : List RV → Prop) : Prop :=
 Ln (List.map eItem a0.keep.l) (Ln (List.map eWin a0.win) (Ln (List.map I a0.top) (Ln (List.map eAsk a0.ask) (Ln (List.map lI a0.have_) (Ln (List.map I a0.lost) (Fk (a1.from_ == a0.me)
 (Φ [.pv (eRel a0), .pv (B false)])
 (Fk (decide (((List.map eWin a0.win).length : Int) ≤ a1.from_))
 (Φ [.pv (eRel a0), .pv (B false)])
 (Fk (a1.kind == 3)
 (Fk (decide (((List.map eWin a0.win).length : Int) ≤ a1.to_))
 (Φ [.pv (eRel a0), .pv (B false)])
 (∃ x1, Cl 32 [eRel a0, ePacket a1, I a4] [.pv (eRel x1)] ∧
 Φ [.pv (eRel x1), .pv (B true)]))
 (Fk (a1.kind == 4)
 (Ln (List.map I a1.item.l) (Ln (List.map U8 a1.item.body) (Ln (List.map I a1.l) (Fk (((List.map I a1.l).length : Int) != ((List.map eWin a0.win).length : Int))
 (Φ [.pv (eRel a0), .pv (B false)])
 (∃ x2, Cl 33 [eRel a0, I a1.from_, I a1.top] [.pv (eRel x2)] ∧
 Ix lI (List.map lI x2.have_) a1.from_ fun x3 =>
 ∃ x4, Cl 35 [.sl false (List.map I x3), .sl false (List.map I a1.l)] [.pv (.sl false (List.map I x4))] ∧
 ∃ x5, Cl 34 [.sl false (List.map lI x2.have_), I a1.from_, .sl false (List.map I x4)] [.pv (.sl false (List.map lI x5))] ∧
 Φ [.pv (.agg [I x2.me, I x2.now, I x2.keep.next, .sl false (List.map eItem x2.keep.l), .sl false (List.map eWin x2.win), .sl false (List.map I x2.top), .sl false (List.map eAsk x2.ask), .sl false (List.map lI x5), .sl false (List.map I x2.lost), I x2.naks]), .pv (B true)])))))
 (∃ x6, Cl 33 [eRel a0, I a1.from_, I a1.item.seq] [.pv (eRel x6)] ∧
 Ix eWin (List.map eWin x6.win) a1.from_ fun x7 =>
 Ix I a2 a1.from_ fun x8 =>
 ∃ x9 x10, Cl 36 [eWin x7, eItem a1.item, I (w64 (x8 + a3))] [.pv (eWin x9), .pv (B x10)] ∧
 ∃ x11, Cl 37 [.sl false (List.map eWin x6.win), I a1.from_, eWin x9] [.pv (.sl false (List.map eWin x11))] ∧
 Φ [.pv (.agg [I x6.me, I x6.now, I x6.keep.next, .sl false (List.map eItem x6.keep.l), .sl false (List.map eWin x11), .sl false (List.map I x6.top), .sl false (List.map eAsk x6.ask), .sl false (List.map lI x6.have_), .sl false (List.map I x6.lost), I x6.naks]), .pv (B true)]))))))))))
theorem t11 (a0 : Rel) (a1 : Packet) (a2 : List PV) (a3 : Int) (a4 : Int) {Φ : List RV → Prop} (h : P11 a0 a1 a2 a3 a4 Φ) : CtP Tryz.prog 11 [eRel a0, ePacket a1, .sl false a2, I a3, I a4] Φ :=
  ctP_by h 1000 [(1997, .lens [5]), (3004, .fork [(3008, .off)] []), (3008, .fork [] []), (6001, .fork [] []), (7003, .fork [] []), (9003, .call [.pv (.ty Rel eRel)]), (10001, .fork [] []), (11004, .fork [] []), (11997, .lens [6]), (13004, .call [.pv (.ty Rel eRel)]), (14006, .ix (List Int) lI), (14010, .call [.pv (.ty (List Int) lI)]), (14011, .call [.pv (.ty (List (List Int)) llI)]), (16005, .call [.pv (.ty Rel eRel)]), (17003, .ix Win eWin), (17009, .ix Int I), (17013, .call [.pv (.ty Win eWin), .pv .bool]), (18004, .call [.pv (.ty (List Win) lWin)])] mixed Tryz.func11 rfl (by kernel_rfl) (by kernel_rfl)

/-- win.Peek -/
def P67 (a0 : Win) (Φ : List RV → Prop) : Prop :=
 Ln (List.map eItem a0.l) (Fk (((List.map eItem a0.l).length : Int) == 0)
 (Φ [.pv (.agg [I 0, I 0, I 0, I 0, I 0, I 0, .sl true [], .sl true []]), .pv (B false)])
 (Ix eItem (List.map eItem a0.l) 0 fun x1 =>
 Fk (x1.seq != a0.next)
 (Φ [.pv (.agg [I 0, I 0, I 0, I 0, I 0, I 0, .sl true [], .sl true []]), .pv (B false)])
 (Ix eItem (List.map eItem a0.l) 0 fun x2 =>
 Φ [.pv (eItem x2), .pv (B true)])))
theorem t67 (a0 : Win) {Φ : List RV → Prop} (h : P67 a0 Φ) : CtP Tryz.prog 67 [eWin a0] Φ :=
  ctP_by h 1000 [(1004, .fork [(1013, .off)] []), (1007, .ix Item eItem), (1013, .fork [] []), (1997, .lens [1]), (3002, .ix Item eItem)] mixed Tryz.func67 rfl (by kernel_rfl) (by kernel_rfl)

/-- rel.Peek -/
def P21 (a0 : Rel) (a1 : Int) (Φ : List RV → Prop) : Prop :=
 Ix eWin (List.map eWin a0.win) a1 fun x1 =>
 ∃ x2 x3, Cl 67 [eWin x1] [.pv (eItem x2), .pv (B x3)] ∧
 Φ [.pv (eItem x2), .pv (B x3)]
theorem t21 (a0 : Rel) (a1 : Int) {Φ : List RV → Prop} (h : P21 a0 a1 Φ) : CtP Tryz.prog 21 [eRel a0, I a1] Φ :=
  ctP_by h 1000 [(1003, .ix Win eWin), (1005, .call [.pv (.ty Item eItem), .pv .bool])] mixed Tryz.func21 rfl (by kernel_rfl) (by kernel_rfl)

/-- win.Take -/
def P68 (a0 : Win) (Φ : List RV → Prop) : Prop :=
 ∃ x1 x2, Cl 67 [eWin a0] [.pv (eItem x1), .pv (B x2)] ∧
 Fk (!x2)
 (Φ [.pv (.agg [I 0, I 0, I 0, I 0, I 0, I 0, .sl true [], .sl true []]), .pv (eWin a0), .pv (B false)])
 (Sd 8 (List.map eItem a0.l) 1 (
 ∃ x3, Cl 94 [.sl false [.sl false (List.drop 1 (List.map eItem a0.l))]] [.fresh 33 8 x3] ∧
 Φ [.pv (eItem x1), .pv (.agg [I (w64 (a0.next + 1)), .sl false x3]), .pv (B true)]))
theorem t68 (a0 : Win) {Φ : List RV → Prop} (h : P68 a0 Φ) : CtP Tryz.prog 68 [eWin a0] Φ :=
  ctP_by h 1000 [(1001, .call [.pv (.ty Item eItem), .pv .bool]), (2001, .fork [] []), (4006, .slc), (4008, .call [.row 33 8])] mixed Tryz.func68 rfl (by kernel_rfl) (by kernel_rfl)

/-- rel.Read -/
def P22 (a0 : Rel) (a1 : Int) (Φ : List RV → Prop) : Prop :=
 Ix eWin (List.map eWin a0.win) a1 fun x1 =>
 ∃ x2 x3 x4, Cl 68 [eWin x1] [.pv (eItem x2), .pv (eWin x3), .pv (B x4)] ∧
 Fk (!x4)
 (Φ [.pv (eRel a0), .pv (B false)])
 (∃ x5, Cl 37 [.sl false (List.map eWin a0.win), I a1, eWin x3] [.pv (.sl false (List.map eWin x5))] ∧
 Φ [.pv (.agg [I a0.me, I a0.now, I a0.keep.next, .sl false (List.map eItem a0.keep.l), .sl false (List.map eWin x5), .sl false (List.map I a0.top), .sl false (List.map eAsk a0.ask), .sl false (List.map lI a0.have_), .sl false (List.map I a0.lost), I a0.naks]), .pv (B true)])
theorem t22 (a0 : Rel) (a1 : Int) {Φ : List RV → Prop} (h : P22 a0 a1 Φ) : CtP Tryz.prog 22 [eRel a0, I a1] Φ :=
  ctP_by h 1000 [(1003, .ix Win eWin), (1005, .call [.pv (.ty Item eItem), .pv (.ty Win eWin), .pv .bool]), (2001, .fork [] []), (4004, .call [.pv (.ty (List Win) lWin)])] mixed Tryz.func22 rfl (by kernel_rfl) (by kernel_rfl)

/-- vec.Least -/
def P59 (a0 : List PV) (a1 : Int) (Φ : List RV → Prop) : Prop :=
 Ln a0 (Fk ((a0.length : Int) == 0)
 (Φ [.pv (I 0)])
 (Ix lI a0 0 fun x1 =>
 ∃ x2, Cl 107 [.sl false (List.map I x1), I a1] [.pv (I x2)] ∧
 Sd 1 a0 1 (
 SmA (.pv (I a1)) ∧ SmA (.pv (.sl false (List.drop 1 a0))) ∧ SmA (.pv (I ((List.drop 1 a0).length : Int))) ∧ Lo (fun (L4 : Int × Int × Unit → Prop) (v3 : Int × Int × Unit) =>
 Fk (decide (v3.2.1 < ((List.drop 1 a0).length : Int)))
 (Ix lI (List.drop 1 a0) v3.2.1 fun x5 =>
 ∃ x6, Cl 107 [.sl false (List.map I x5), I a1] [.pv (I x6)] ∧
 SmA (.pv (I a1)) ∧ SmA (.pv (.sl false (List.drop 1 a0))) ∧ SmA (.pv (I ((List.drop 1 a0).length : Int))) ∧ L4 (imin v3.1 x6, w64 (v3.2.1 + 1), ()))
 (Φ [.pv (I v3.1)])) (x2, 0, ()))))
theorem t59 (a0 : List PV) (a1 : Int) {Φ : List RV → Prop} (h : P59 a0 a1 Φ) : CtP Tryz.prog 59 [.sl false a0, I a1] Φ :=
  ctP_by h 1000 [(1002, .fork [] []), (1997, .lens [0]), (3001, .ix (List Int) lI), (3004, .call [.pv (.int .i64)]), (4001, .slc), (5000, .fork [] []), (5999, .loop [.k 1 (.pv (I a1)), .c 5 (.int .i64), .k 17 (.pv (.sl false (List.drop 1 a0))), .k 18 (.pv (I ((List.drop 1 a0).length : Int))), .c 19 (.int .i64)]), (6000, .ix (List Int) lI), (7003, .call [.pv (.int .i64)])] mixed Tryz.func59 rfl (by kernel_rfl) (by kernel_rfl)

/-- keep.Free$1 -/
def P106a (b0 : Int) (b1 : Int) (Φ : List RV → Prop) : Prop :=
 Φ [.pv (B (decide (b1 < b0)))]
theorem t106a (b0 : Int) (b1 : Int) {Φ : List RV → Prop} (h : P106a b0 b1 Φ) : CtP Tryz.prog 106 [I b0, .ip [I b1] 0] Φ :=
  ctP_by h 1000 [] mixed Tryz.func106 rfl (by kernel_rfl) (by kernel_rfl)

/-- keep.place$1 -/
def P126b (b0 : Item) (b1 : Int) (Φ : List RV → Prop) : Prop :=
 ∃ x1, Cl 106 [I b0.seq, .ip [I b1] 0] [.pv (B x1)] ∧
 Φ [.pv (B x1)]
theorem t126b (b0 : Item) (b1 : Int) {Φ : List RV → Prop} (h : P126b b0 b1 Φ) : CtP Tryz.prog 126 [eItem b0, .ip [.fn (.func 106) [] [.ip [I b1] 0]] 0] Φ :=
  ctP_by h 1000 [(1003, .call [.pv .bool])] mixed Tryz.func126 rfl (by kernel_rfl) (by kernel_rfl)

/-- slices.IndexFunc[[]api.Item,api.Item] -/
def P125b (b0 : List PV) (b1 : Int) (Φ : List RV → Prop) : Prop :=
 Ln b0 (SmA (.pv (.sl false b0)) ∧ SmA (.pv (.fn (.func 126) [] [.ip [.fn (.func 106) [] [.ip [I b1] 0]] 0])) ∧ SmA (.pv (I (b0.length : Int))) ∧ Lo (fun (L2 : Int × Unit → Prop) (v1 : Int × Unit) =>
 Fk (decide (v1.1 < (b0.length : Int)))
 (Ix eItem b0 v1.1 fun x3 =>
 ∃ x4, Cl 126 [eItem x3, .ip [.fn (.func 106) [] [.ip [I b1] 0]] 0] [.pv (B x4)] ∧
 Fk x4
 (Φ [.pv (I v1.1)])
 (SmA (.pv (.sl false b0)) ∧ SmA (.pv (.fn (.func 126) [] [.ip [.fn (.func 106) [] [.ip [I b1] 0]] 0])) ∧ SmA (.pv (I (b0.length : Int))) ∧ L2 (w64 (v1.1 + 1), ())))
 (Φ [.pv (I (-1))])) (0, ()))
theorem t125b (b0 : List PV) (b1 : Int) {Φ : List RV → Prop} (h : P125b b0 b1 Φ) : CtP Tryz.prog 125 [.sl false b0, .fn (.func 126) [] [.ip [.fn (.func 106) [] [.ip [I b1] 0]] 0]] Φ :=
  ctP_by h 1000 [(1997, .lens [0]), (2000, .fork [] []), (2999, .loop [.k 0 (.pv (.sl false b0)), .k 1 (.pv (.fn (.func 126) [] [.ip [.fn (.func 106) [] [.ip [I b1] 0]] 0])), .k 7 (.pv (I (b0.length : Int))), .c 8 (.int .i64)]), (4003, .ix Item eItem), (4005, .callf [.pv .bool] [] [])] mixed Tryz.func125 rfl (by kernel_rfl) (by kernel_rfl)

/-- keep.place -/
def P100b (b0 : Keep) (b1 : Int) (Φ : List RV → Prop) : Prop :=
 ∃ x1, Cl 125 [.sl false (List.map eItem b0.l), .fn (.func 126) [] [.ip [.fn (.func 106) [] [.ip [I b1] 0]] 0]] [.pv (I x1)] ∧
 Φ [.pv (I x1)]
theorem t100b (b0 : Keep) (b1 : Int) {Φ : List RV → Prop} (h : P100b b0 b1 Φ) : CtP Tryz.prog 100 [eKeep b0, .fn (.func 106) [] [.ip [I b1] 0]] Φ :=
  ctP_by h 1000 [(1003, .call [.pv (.int .i64)])] mixed Tryz.func100 rfl (by kernel_rfl) (by kernel_rfl)

/-- keep.Free -/
def P58 (a0 : Keep) (a1 : Int) (Φ : List RV → Prop) : Prop :=
 ∃ x1, Cl 100 [eKeep a0, .fn (.func 106) [] [.ip [I a1] 0]] [.pv (I x1)] ∧
 Jn (fun v2 : Int × Unit × Unit × Unit =>
 Ln (List.map eItem a0.l) (Sb3 8 (List.map eItem a0.l) v2.1 ((List.map eItem a0.l).length : Int) ((List.map eItem a0.l).length : Int) (
 Φ [.pv (.agg [I a0.next, .sl true (List.take (((List.map eItem a0.l).length : Int).toNat - v2.1.toNat) (List.drop v2.1.toNat (List.map eItem a0.l)))])]))) (fun j3 =>
 (fun j3 : Int × Unit × Unit × Unit → Prop =>
 Fk (decide (x1 < 0))
 (Ln (List.map eItem a0.l) (j3 (((List.map eItem a0.l).length : Int), (), (), ())))
 (j3 (x1, (), (), ()))) (fun v => SmA (.bp 65552 0) ∧ SmA (.bp 65568 0) ∧ SmA (.pv (I a0.next)) ∧ SmA (.pv (.sl false (List.map eItem a0.l))) ∧ SmA (.pv (I 0)) ∧ SmA (.pv (.sl true [])) ∧ j3 v))
theorem t58 (a0 : Keep) (a1 : Int) {Φ : List RV → Prop} (h : P58 a0 a1 Φ) : CtP Tryz.prog 58 [eKeep a0, I a1] Φ :=
  ctP_by h 1000 [(1002, .call [.pv (.int .i64)]), (2001, .fork [] []), (3997, .lens [2]), (4997, .lens [2]), (4998, .join [.k 2 (.bp 65552 0), .k 4 (.bp 65568 0), .c 5 (.int .i64), .box 65552 true [.k (.pv (I a0.next)), .k (.pv (.sl false (List.map eItem a0.l)))], .box 65568 true [.k (.pv (I 0)), .k (.pv (.sl true []))]]), (5005, .slc)] mixed Tryz.func58 rfl (by kernel_rfl) (by kernel_rfl)

/-- rel.Free -/
def P16 (a0 : Rel) (a1 : List PV) (Φ : List RV → Prop) : Prop :=
 Fn_ Tryz.prog 47 Tryz.f47 (
 Fn_ Tryz.prog 102 Tryz.f102 (
 Ln (List.map eItem a0.keep.l) (Ln (List.map eWin a0.win) (Ln (List.map I a0.top) (Ln (List.map eAsk a0.ask) (Ln (List.map lI a0.have_) (Ln (List.map I a0.lost) (SmA (.yl 458748) ∧ SmA (.bp 262152 0) ∧ SmA (.pv (I ((List.map eWin a0.win).length : Int))) ∧ SmA (.pv (I a0.me)) ∧ SmA (.pv (I a0.now)) ∧ SmA (.pv (I a0.keep.next)) ∧ SmA (.pv (.sl false (List.map eItem a0.keep.l))) ∧ SmA (.pv (.sl false (List.map eWin a0.win))) ∧ SmA (.pv (.sl false (List.map I a0.top))) ∧ SmA (.pv (.sl false (List.map eAsk a0.ask))) ∧ SmA (.pv (.sl false (List.map lI a0.have_))) ∧ SmA (.pv (.sl false (List.map I a0.lost))) ∧ SmA (.pv (I a0.naks)) ∧ SmA (.pv (I 0)) ∧ SmA (.pv (I 0)) ∧ SmA (.pv (I 0)) ∧ SmA (.pv (.sl true [])) ∧ SmA (.pv (.sl true [])) ∧ SmA (.pv (.sl true [])) ∧ SmA (.pv (.sl true [])) ∧ SmA (.pv (.sl true [])) ∧ SmA (.pv (.sl true [])) ∧ SmA (.pv (I 0)) ∧ SmA (.pv (I a0.me)) ∧ SmA (.pv (I a0.now)) ∧ SmA (.pv (I a0.keep.next)) ∧ SmA (.pv (.sl false (List.map eItem a0.keep.l))) ∧ SmA (.pv (.sl false (List.map eWin a0.win))) ∧ SmA (.pv (.sl false (List.map I a0.top))) ∧ SmA (.pv (.sl false (List.map eAsk a0.ask))) ∧ SmA (.pv (.sl false (List.map lI a0.have_))) ∧ SmA (.pv (.sl false (List.map I a0.lost))) ∧ SmA (.pv (I a0.naks)) ∧ Lo (fun (L2 : Int × Unit × Unit × ((List PV) × Unit) × Unit × Unit → Prop) (v1 : Int × Unit × Unit × ((List PV) × Unit) × Unit × Unit) =>
 Fk (decide (v1.1 < ((List.map eWin a0.win).length : Int)))
 (Jn (fun v3 : Int × Unit × Unit × ((List PV) × Unit) × Unit × Unit =>
 SmA (.yl 458748) ∧ SmA (.bp 262152 0) ∧ SmA (.pv (I ((List.map eWin a0.win).length : Int))) ∧ SmA (.pv (I a0.me)) ∧ SmA (.pv (I a0.now)) ∧ SmA (.pv (I a0.keep.next)) ∧ SmA (.pv (.sl false (List.map eItem a0.keep.l))) ∧ SmA (.pv (.sl false (List.map eWin a0.win))) ∧ SmA (.pv (.sl false (List.map I a0.top))) ∧ SmA (.pv (.sl false (List.map eAsk a0.ask))) ∧ SmA (.pv (.sl false (List.map lI a0.have_))) ∧ SmA (.pv (.sl false (List.map I a0.lost))) ∧ SmA (.pv (I a0.naks)) ∧ SmA (.pv (I 0)) ∧ SmA (.pv (I 0)) ∧ SmA (.pv (I 0)) ∧ SmA (.pv (.sl true [])) ∧ SmA (.pv (.sl true [])) ∧ SmA (.pv (.sl true [])) ∧ SmA (.pv (.sl true [])) ∧ SmA (.pv (.sl true [])) ∧ SmA (.pv (.sl true [])) ∧ SmA (.pv (I 0)) ∧ SmA (.pv (I a0.me)) ∧ SmA (.pv (I a0.now)) ∧ SmA (.pv (I a0.keep.next)) ∧ SmA (.pv (.sl false (List.map eItem a0.keep.l))) ∧ SmA (.pv (.sl false (List.map eWin a0.win))) ∧ SmA (.pv (.sl false (List.map I a0.top))) ∧ SmA (.pv (.sl false (List.map eAsk a0.ask))) ∧ SmA (.pv (.sl false (List.map lI a0.have_))) ∧ SmA (.pv (.sl false (List.map I a0.lost))) ∧ SmA (.pv (I a0.naks)) ∧ L2 (w64 (v3.1 + 1), (), (), (v3.2.2.2.1.1, ()), (), ())) (fun j4 =>
 (fun j4 : Int × Unit × Unit × ((List PV) × Unit) × Unit × Unit → Prop =>
 Fk (v1.1 != a0.me)
 (Ix lI (List.map lI a0.have_) v1.1 fun x5 =>
 Sz v1.2.2.2.1.1.length 1 24 (
 j4 (v1.1, (), (), (v1.2.2.2.1.1 ++ [.sl false (List.map I x5)], ()), (), ())))
 (j4 (v1.1, (), (), (v1.2.2.2.1.1, ()), (), ()))) (fun v => SmA (.yl 458748) ∧ SmA (.bp 262152 0) ∧ SmA (.pv (I ((List.map eWin a0.win).length : Int))) ∧ SmA (.pv (I a0.me)) ∧ SmA (.pv (I a0.now)) ∧ SmA (.pv (I a0.keep.next)) ∧ SmA (.pv (.sl false (List.map eItem a0.keep.l))) ∧ SmA (.pv (.sl false (List.map eWin a0.win))) ∧ SmA (.pv (.sl false (List.map I a0.top))) ∧ SmA (.pv (.sl false (List.map eAsk a0.ask))) ∧ SmA (.pv (.sl false (List.map lI a0.have_))) ∧ SmA (.pv (.sl false (List.map I a0.lost))) ∧ SmA (.pv (I a0.naks)) ∧ SmA (.pv (I 0)) ∧ SmA (.pv (I 0)) ∧ SmA (.pv (I 0)) ∧ SmA (.pv (.sl true [])) ∧ SmA (.pv (.sl true [])) ∧ SmA (.pv (.sl true [])) ∧ SmA (.pv (.sl true [])) ∧ SmA (.pv (.sl true [])) ∧ SmA (.pv (.sl true [])) ∧ SmA (.pv (I 0)) ∧ SmA (.pv (I a0.me)) ∧ SmA (.pv (I a0.now)) ∧ SmA (.pv (I a0.keep.next)) ∧ SmA (.pv (.sl false (List.map eItem a0.keep.l))) ∧ SmA (.pv (.sl false (List.map eWin a0.win))) ∧ SmA (.pv (.sl false (List.map I a0.top))) ∧ SmA (.pv (.sl false (List.map eAsk a0.ask))) ∧ SmA (.pv (.sl false (List.map lI a0.have_))) ∧ SmA (.pv (.sl false (List.map I a0.lost))) ∧ SmA (.pv (I a0.naks)) ∧ j4 v)))
 (∃ x6, Cl 59 [.sl false v1.2.2.2.1.1, I a0.me] [.pv (I x6)] ∧
 ∃ x7, Cl 58 [eKeep a0.keep, I x6] [.pv (eKeep x7)] ∧
 ∃ x8, Cl 51 [.sl false (List.map I a0.lost)] [.fresh 3 1 x8] ∧
 Jn (fun v9 : List PV × (Int × (List PV) × Unit) × Unit × Unit =>
 Φ [.pv (.agg [I a0.me, I a0.now, I v9.2.1.1, .sl false v9.2.1.2.1, .sl false (List.map eWin a0.win), .sl false (List.map I a0.top), .sl false (List.map eAsk a0.ask), .sl false (List.map lI a0.have_), .sl false v9.1, I a0.naks])]) (fun j10 =>
 Fn_ Tryz.prog 60 Tryz.f60 ((fun j10 : List PV × (Int × (List PV) × Unit) × Unit × Unit → Prop =>
 Jn (fun v11 : List PV × Int × (Int × (List PV) × Unit) × Unit × Unit =>
 Fk (v11.2.1 == (-1))
 (j10 (v11.1, (v11.2.2.1.1, v11.2.2.1.2.1, ()), (), ()))
 (SmA (.fn (.func 61) [] [.bp 65552 0]) ∧ SmA (.pv (I a0.me)) ∧ SmA (.pv (I a0.now)) ∧ SmA (.pv (.sl false (List.map eWin a0.win))) ∧ SmA (.pv (.sl false (List.map I a0.top))) ∧ SmA (.pv (.sl false (List.map eAsk a0.ask))) ∧ SmA (.pv (.sl false (List.map lI a0.have_))) ∧ SmA (.pv (.sl false (List.map I a0.lost))) ∧ SmA (.pv (I a0.naks)) ∧ SmA (.pv (I 0)) ∧ SmA (.pv (I 0)) ∧ SmA (.pv (I 0)) ∧ SmA (.pv (.sl true [])) ∧ SmA (.pv (.sl true [])) ∧ SmA (.pv (.sl true [])) ∧ SmA (.pv (.sl true [])) ∧ SmA (.pv (.sl true [])) ∧ SmA (.pv (.sl true [])) ∧ SmA (.pv (I 0)) ∧ Lo (fun (L14 : List PV × Int × Int × (Int × (List PV) × Unit) × Unit × Unit → Prop) (v13 : List PV × Int × Int × (Int × (List PV) × Unit) × Unit × Unit) =>
 Ln v13.1 (Fk (decide (v13.2.2.1 < (v13.1.length : Int)))
 (Jn (fun v15 : List PV × Int × Int × (Int × (List PV) × Unit) × Unit × Unit =>
 SmA (.fn (.func 61) [] [.bp 65552 0]) ∧ SmA (.pv (I a0.me)) ∧ SmA (.pv (I a0.now)) ∧ SmA (.pv (.sl false (List.map eWin a0.win))) ∧ SmA (.pv (.sl false (List.map I a0.top))) ∧ SmA (.pv (.sl false (List.map eAsk a0.ask))) ∧ SmA (.pv (.sl false (List.map lI a0.have_))) ∧ SmA (.pv (.sl false (List.map I a0.lost))) ∧ SmA (.pv (I a0.naks)) ∧ SmA (.pv (I 0)) ∧ SmA (.pv (I 0)) ∧ SmA (.pv (I 0)) ∧ SmA (.pv (.sl true [])) ∧ SmA (.pv (.sl true [])) ∧ SmA (.pv (.sl true [])) ∧ SmA (.pv (.sl true [])) ∧ SmA (.pv (.sl true [])) ∧ SmA (.pv (.sl true [])) ∧ SmA (.pv (I 0)) ∧ L14 (v15.1, v15.2.1, w64 (v15.2.2.1 + 1), (v15.2.2.2.1.1, v15.2.2.2.1.2.1, ()), (), ())) (fun j16 =>
 (fun j16 : List PV × Int × Int × (Int × (List PV) × Unit) × Unit × Unit → Prop =>
 Rx v13.2.2.1 v13.1.length (
 Ld I v13.1 (0 + v13.2.2.1.toNat) fun x17 =>
 Fn_ Tryz.prog 61 Tryz.f61 (
 ∃ x18 x19, Cl 46 [.agg [I v13.2.2.2.1.1, .sl false v13.2.2.2.1.2.1], I x17] [.pv (eItem x18), .pv (B x19)] ∧
 Fk (!(!x19))
 (Rx v13.2.1 v13.1.length (
 Ld I v13.1 (0 + v13.2.1.toNat) fun x20 =>
 j16 (v13.1.set (0 + v13.2.1.toNat) (I x17), w64 (v13.2.1 + 1), v13.2.2.1, (v13.2.2.2.1.1, v13.2.2.2.1.2.1, ()), (), ())))
 (j16 (v13.1, v13.2.1, v13.2.2.1, (v13.2.2.2.1.1, v13.2.2.2.1.2.1, ()), (), ()))))) (fun v => SmA (.fn (.func 61) [] [.bp 65552 0]) ∧ SmA (.pv (I a0.me)) ∧ SmA (.pv (I a0.now)) ∧ SmA (.pv (.sl false (List.map eWin a0.win))) ∧ SmA (.pv (.sl false (List.map I a0.top))) ∧ SmA (.pv (.sl false (List.map eAsk a0.ask))) ∧ SmA (.pv (.sl false (List.map lI a0.have_))) ∧ SmA (.pv (.sl false (List.map I a0.lost))) ∧ SmA (.pv (I a0.naks)) ∧ SmA (.pv (I 0)) ∧ SmA (.pv (I 0)) ∧ SmA (.pv (I 0)) ∧ SmA (.pv (.sl true [])) ∧ SmA (.pv (.sl true [])) ∧ SmA (.pv (.sl true [])) ∧ SmA (.pv (.sl true [])) ∧ SmA (.pv (.sl true [])) ∧ SmA (.pv (.sl true [])) ∧ SmA (.pv (I 0)) ∧ j16 v)))
 (Pl v13.1.length v13.2.1 (
 Pf (0 + v13.2.1.toNat + (v13.1.length - v13.2.1.toNat) ≤ v13.1.length) (
 Ph v13.1.length v13.2.1 (
 Pf (0 + (v13.2.1.toNat) ≤ ((List.take (0 + v13.2.1.toNat) v13.1 ++ List.replicate (v13.1.length - v13.2.1.toNat) (I 0) ++ List.drop (0 + v13.2.1.toNat + (v13.1.length - v13.2.1.toNat)) v13.1).length)) (
 j10 (List.take v13.2.1.toNat (List.drop 0 (List.take (0 + v13.2.1.toNat) v13.1 ++ List.replicate (v13.1.length - v13.2.1.toNat) (I 0) ++ List.drop (0 + v13.2.1.toNat + (v13.1.length - v13.2.1.toNat)) v13.1)), (v13.2.2.2.1.1, v13.2.2.2.1.2.1, ()), (), ())))))))) (v11.1, v11.2.1, w64 (v11.2.1 + 1), (v11.2.2.1.1, v11.2.2.1.2.1, ()), (), ()))) (fun j12 =>
 Fn_ Tryz.prog 108 Tryz.f108 ((fun j12 : List PV × Int × (Int × (List PV) × Unit) × Unit × Unit → Prop =>
 Ln x8 (SmA (.fn (.func 61) [] [.bp 65552 0]) ∧ SmA (.pv (I a0.me)) ∧ SmA (.pv (I a0.now)) ∧ SmA (.pv (.sl false (List.map eWin a0.win))) ∧ SmA (.pv (.sl false (List.map I a0.top))) ∧ SmA (.pv (.sl false (List.map eAsk a0.ask))) ∧ SmA (.pv (.sl false (List.map lI a0.have_))) ∧ SmA (.pv (.sl false (List.map I a0.lost))) ∧ SmA (.pv (I a0.naks)) ∧ SmA (.pv (I 0)) ∧ SmA (.pv (I 0)) ∧ SmA (.pv (I 0)) ∧ SmA (.pv (.sl true [])) ∧ SmA (.pv (.sl true [])) ∧ SmA (.pv (.sl true [])) ∧ SmA (.pv (.sl true [])) ∧ SmA (.pv (.sl true [])) ∧ SmA (.pv (.sl true [])) ∧ SmA (.pv (I 0)) ∧ Lo (fun (L22 : Int × Int × List PV × (Int × (List PV) × Unit) × Unit × Unit → Prop) (v21 : Int × Int × List PV × (Int × (List PV) × Unit) × Unit × Unit) =>
 Fk (decide (v21.2.1 < v21.1))
 (Rx v21.2.1 v21.2.2.1.length (
 Ld I v21.2.2.1 (0 + v21.2.1.toNat) fun x23 =>
 Fn_ Tryz.prog 61 Tryz.f61 (
 ∃ x24 x25, Cl 46 [.agg [I v21.2.2.2.1.1, .sl false v21.2.2.2.1.2.1], I x23] [.pv (eItem x24), .pv (B x25)] ∧
 Fk (!x25)
 (j12 (v21.2.2.1, v21.2.1, (v21.2.2.2.1.1, v21.2.2.2.1.2.1, ()), (), ()))
 (SmA (.fn (.func 61) [] [.bp 65552 0]) ∧ SmA (.pv (I a0.me)) ∧ SmA (.pv (I a0.now)) ∧ SmA (.pv (.sl false (List.map eWin a0.win))) ∧ SmA (.pv (.sl false (List.map I a0.top))) ∧ SmA (.pv (.sl false (List.map eAsk a0.ask))) ∧ SmA (.pv (.sl false (List.map lI a0.have_))) ∧ SmA (.pv (.sl false (List.map I a0.lost))) ∧ SmA (.pv (I a0.naks)) ∧ SmA (.pv (I 0)) ∧ SmA (.pv (I 0)) ∧ SmA (.pv (I 0)) ∧ SmA (.pv (.sl true [])) ∧ SmA (.pv (.sl true [])) ∧ SmA (.pv (.sl true [])) ∧ SmA (.pv (.sl true [])) ∧ SmA (.pv (.sl true [])) ∧ SmA (.pv (.sl true [])) ∧ SmA (.pv (I 0)) ∧ L22 (v21.1, w64 (v21.2.1 + 1), v21.2.2.1, (v21.2.2.2.1.1, v21.2.2.2.1.2.1, ()), (), ())))))
 (j12 (v21.2.2.1, (-1), (v21.2.2.2.1.1, v21.2.2.2.1.2.1, ()), (), ()))) ((x8.length : Int), 0, x8, (x7.next, List.map eItem x7.l, ()), (), ()))) (fun v => SmA (.fn (.func 61) [] [.bp 65552 0]) ∧ SmA (.pv (I a0.me)) ∧ SmA (.pv (I a0.now)) ∧ SmA (.pv (.sl false (List.map eWin a0.win))) ∧ SmA (.pv (.sl false (List.map I a0.top))) ∧ SmA (.pv (.sl false (List.map eAsk a0.ask))) ∧ SmA (.pv (.sl false (List.map lI a0.have_))) ∧ SmA (.pv (.sl false (List.map I a0.lost))) ∧ SmA (.pv (I a0.naks)) ∧ SmA (.pv (I 0)) ∧ SmA (.pv (I 0)) ∧ SmA (.pv (I 0)) ∧ SmA (.pv (.sl true [])) ∧ SmA (.pv (.sl true [])) ∧ SmA (.pv (.sl true [])) ∧ SmA (.pv (.sl true [])) ∧ SmA (.pv (.sl true [])) ∧ SmA (.pv (.sl true [])) ∧ SmA (.pv (I 0)) ∧ j12 v)))) (fun v => SmA (.bp 65552 0) ∧ SmA (.bp 65568 0) ∧ SmA (.pv (I a0.me)) ∧ SmA (.pv (I a0.now)) ∧ SmA (.pv (.sl false (List.map eWin a0.win))) ∧ SmA (.pv (.sl false (List.map I a0.top))) ∧ SmA (.pv (.sl false (List.map eAsk a0.ask))) ∧ SmA (.pv (.sl false (List.map lI a0.have_))) ∧ SmA (.pv (.sl false (List.map I a0.lost))) ∧ SmA (.pv (I a0.naks)) ∧ SmA (.pv (I 0)) ∧ SmA (.pv (I 0)) ∧ SmA (.pv (I 0)) ∧ SmA (.pv (.sl true [])) ∧ SmA (.pv (.sl true [])) ∧ SmA (.pv (.sl true [])) ∧ SmA (.pv (.sl true [])) ∧ SmA (.pv (.sl true [])) ∧ SmA (.pv (.sl true [])) ∧ SmA (.pv (I 0)) ∧ j10 v))))) (0, (), (), ([.sl false a1], ()), (), ())))))))))
theorem t16 (a0 : Rel) (a1 : List PV) {Φ : List RV → Prop} (h : P16 a0 a1 Φ) : CtP Tryz.prog 16 [eRel a0, .sl false a1] Φ :=
  ctP_by h 1000 [(2001, .inl Tryz.f47 [65552, 65568, 131112] []), (3995, .rng Tryz.f102 [65552, 65568, 131112] [(997, .lens [1]), (1000, .fork [] []), (1999, .loop [.k 0 (.yl 458748), .k 1 (.bp 262152 0), .k 6 (.pv (I ((List.map eWin a0.win).length : Int))), .c 7 (.int .i64), .lp 458748 false, .box 65552 true [.k (.pv (I a0.me)), .k (.pv (I a0.now)), .k (.pv (I a0.keep.next)), .k (.pv (.sl false (List.map eItem a0.keep.l))), .k (.pv (.sl false (List.map eWin a0.win))), .k (.pv (.sl false (List.map I a0.top))), .k (.pv (.sl false (List.map eAsk a0.ask))), .k (.pv (.sl false (List.map lI a0.have_))), .k (.pv (.sl false (List.map I a0.lost))), .k (.pv (I a0.naks))], .box 65568 true [.k (.pv (I 0)), .k (.pv (I 0)), .k (.pv (I 0)), .k (.pv (.sl true [])), .k (.pv (.sl true [])), .k (.pv (.sl true [])), .k (.pv (.sl true [])), .k (.pv (.sl true [])), .k (.pv (.sl true [])), .k (.pv (I 0))], .box 131112 true [.r 524291 26 1], .box 262152 true [.k (.pv (I a0.me)), .k (.pv (I a0.now)), .k (.pv (I a0.keep.next)), .k (.pv (.sl false (List.map eItem a0.keep.l))), .k (.pv (.sl false (List.map eWin a0.win))), .k (.pv (.sl false (List.map I a0.top))), .k (.pv (.sl false (List.map eAsk a0.ask))), .k (.pv (.sl false (List.map lI a0.have_))), .k (.pv (.sl false (List.map I a0.lost))), .k (.pv (I a0.naks))]]), (3004, .fork [] []), (3007, .yld [65552, 65568, 131112, 262152, 458748] [(4004, .ix (List Int) lI), (4007, .app false false)]), (4998, .join [.k 0 (.yl 458748), .k 1 (.bp 262152 0), .k 6 (.pv (I ((List.map eWin a0.win).length : Int))), .c 7 (.int .i64), .lp 458748 false, .box 65552 true [.k (.pv (I a0.me)), .k (.pv (I a0.now)), .k (.pv (I a0.keep.next)), .k (.pv (.sl false (List.map eItem a0.keep.l))), .k (.pv (.sl false (List.map eWin a0.win))), .k (.pv (.sl false (List.map I a0.top))), .k (.pv (.sl false (List.map eAsk a0.ask))), .k (.pv (.sl false (List.map lI a0.have_))), .k (.pv (.sl false (List.map I a0.lost))), .k (.pv (I a0.naks))], .box 65568 true [.k (.pv (I 0)), .k (.pv (I 0)), .k (.pv (I 0)), .k (.pv (.sl true [])), .k (.pv (.sl true [])), .k (.pv (.sl true [])), .k (.pv (.sl true [])), .k (.pv (.sl true [])), .k (.pv (.sl true [])), .k (.pv (I 0))], .box 131112 true [.r 655363 26 1], .box 262152 true [.k (.pv (I a0.me)), .k (.pv (I a0.now)), .k (.pv (I a0.keep.next)), .k (.pv (.sl false (List.map eItem a0.keep.l))), .k (.pv (.sl false (List.map eWin a0.win))), .k (.pv (.sl false (List.map I a0.top))), .k (.pv (.sl false (List.map eAsk a0.ask))), .k (.pv (.sl false (List.map lI a0.have_))), .k (.pv (.sl false (List.map I a0.lost))), .k (.pv (I a0.naks))]])]), (5005, .call [.pv (.int .i64)]), (5006, .call [.pv (.ty Keep eKeep)]), (6002, .call [.row 3 1]), (6004, .inlj Tryz.f60 [65552, 65568] [(1002, .inlj Tryz.f108 [65552, 65568, 721136] [(1997, .lens [0]), (2000, .fork [] []), (2999, .loop [.k 1 (.fn (.func 61) [] [.bp 65552 0]), .c 7 (.int .i64), .c 8 (.int .i64), .w 721136 3 1 [0], .box 65552 true [.k (.pv (I a0.me)), .k (.pv (I a0.now)), .h (.int .i64), .h .sl, .k (.pv (.sl false (List.map eWin a0.win))), .k (.pv (.sl false (List.map I a0.top))), .k (.pv (.sl false (List.map eAsk a0.ask))), .k (.pv (.sl false (List.map lI a0.have_))), .k (.pv (.sl false (List.map I a0.lost))), .k (.pv (I a0.naks))], .box 65568 true [.k (.pv (I 0)), .k (.pv (I 0)), .k (.pv (I 0)), .k (.pv (.sl true [])), .k (.pv (.sl true [])), .k (.pv (.sl true [])), .k (.pv (.sl true [])), .k (.pv (.sl true [])), .k (.pv (.sl true [])), .k (.pv (I 0))]]), (4003, .ixr), (4004, .ld Int I), (4005, .inl Tryz.f61 [65552, 65568, 721136] [(1003, .call [.pv (.ty Item eItem), .pv .bool]), (2002, .fork [] [])])] [.r 0 3 1, .k 1 (.fn (.func 61) [] [.bp 65552 0]), .c 10 (.int .i64), .box 65552 true [.k (.pv (I a0.me)), .k (.pv (I a0.now)), .h (.int .i64), .h .sl, .k (.pv (.sl false (List.map eWin a0.win))), .k (.pv (.sl false (List.map I a0.top))), .k (.pv (.sl false (List.map eAsk a0.ask))), .k (.pv (.sl false (List.map lI a0.have_))), .k (.pv (.sl false (List.map I a0.lost))), .k (.pv (I a0.naks))], .box 65568 true [.k (.pv (I 0)), .k (.pv (I 0)), .k (.pv (I 0)), .k (.pv (.sl true [])), .k (.pv (.sl true [])), .k (.pv (.sl true [])), .k (.pv (.sl true [])), .k (.pv (.sl true [])), .k (.pv (.sl true [])), .k (.pv (I 0))]]), (2001, .fork [] []), (5003, .fork [] []), (5997, .lens [0]), (5999, .loop [.r 0 3 1, .k 1 (.fn (.func 61) [] [.bp 65552 0]), .c 5 (.int .i64), .c 6 (.int .i64), .box 65552 true [.k (.pv (I a0.me)), .k (.pv (I a0.now)), .h (.int .i64), .h .sl, .k (.pv (.sl false (List.map eWin a0.win))), .k (.pv (.sl false (List.map I a0.top))), .k (.pv (.sl false (List.map eAsk a0.ask))), .k (.pv (.sl false (List.map lI a0.have_))), .k (.pv (.sl false (List.map I a0.lost))), .k (.pv (I a0.naks))], .box 65568 true [.k (.pv (I 0)), .k (.pv (I 0)), .k (.pv (I 0)), .k (.pv (.sl true [])), .k (.pv (.sl true [])), .k (.pv (.sl true [])), .k (.pv (.sl true [])), .k (.pv (.sl true [])), .k (.pv (.sl true [])), .k (.pv (I 0))]]), (6998, .join [.r 0 3 1, .k 1 (.fn (.func 61) [] [.bp 65552 0]), .c 5 (.int .i64), .c 6 (.int .i64), .box 65552 true [.k (.pv (I a0.me)), .k (.pv (I a0.now)), .h (.int .i64), .h .sl, .k (.pv (.sl false (List.map eWin a0.win))), .k (.pv (.sl false (List.map I a0.top))), .k (.pv (.sl false (List.map eAsk a0.ask))), .k (.pv (.sl false (List.map lI a0.have_))), .k (.pv (.sl false (List.map I a0.lost))), .k (.pv (I a0.naks))], .box 65568 true [.k (.pv (I 0)), .k (.pv (I 0)), .k (.pv (I 0)), .k (.pv (.sl true [])), .k (.pv (.sl true [])), .k (.pv (.sl true [])), .k (.pv (.sl true [])), .k (.pv (.sl true [])), .k (.pv (.sl true [])), .k (.pv (I 0))]]), (7002, .ixr), (7003, .ld Int I), (8002, .inl Tryz.f61 [65552, 65568, 1114119] [(1003, .call [.pv (.ty Item eItem), .pv .bool])]), (8003, .fork [] []), (9003, .ixr), (9004, .st Int I), (11002, .slr), (11003, .clr), (12002, .slf)] [.k 2 (.bp 65552 0), .k 4 (.bp 65568 0), .c 32 .sl, .box 65552 true [.k (.pv (I a0.me)), .k (.pv (I a0.now)), .h (.int .i64), .h .sl, .k (.pv (.sl false (List.map eWin a0.win))), .k (.pv (.sl false (List.map I a0.top))), .k (.pv (.sl false (List.map eAsk a0.ask))), .k (.pv (.sl false (List.map lI a0.have_))), .k (.pv (.sl false (List.map I a0.lost))), .k (.pv (I a0.naks))], .box 65568 true [.k (.pv (I 0)), .k (.pv (I 0)), .k (.pv (I 0)), .k (.pv (.sl true [])), .k (.pv (.sl true [])), .k (.pv (.sl true [])), .k (.pv (.sl true [])), .k (.pv (.sl true [])), .k (.pv (.sl true [])), .k (.pv (I 0))]])] mixed Tryz.func16 rfl (by kernel_rfl) (by kernel_rfl)

/-- ask.Step$1 -/
def P103a (b0 : Ask) (b1 : Int) (Φ : List RV → Prop) : Prop :=
 Fk (b0.due != 0)
 (Φ [.pv (B (decide (b0.due ≤ b1)))])
 (Φ [.pv (B false)])
theorem t103a (b0 : Ask) (b1 : Int) {Φ : List RV → Prop} (h : P103a b0 b1 Φ) : CtP Tryz.prog 103 [.ip ((eAsk b0).cells) 0, .ip [I b1] 0] Φ :=
  ctP_by h 1000 [(1003, .fork [] [])] mixed Tryz.func103 rfl (by kernel_rfl) (by kernel_rfl)

/-- ask.Step -/
def P49 (a0 : Ask) (a1 : Int) (a2 : Int) (a3 : Bool) (Φ : List RV → Prop) : Prop :=
 Jn (fun v1 : Bool × (Int × Unit) × Unit × Unit =>
 Φ [.pv (.agg [I v1.2.1.1]), .pv (B v1.1)]) (fun j2 =>
 (fun j2 : Bool × (Int × Unit) × Unit × Unit → Prop =>
 Jn (fun v3 : Bool × (Int × Unit) × Unit × Unit × Unit =>
 Jn (fun v5 : Bool × (Int × Unit) × Unit × Unit =>
 j2 (v5.1, (w64 (v5.2.1.1 + 1), ()), (), ())) (fun j6 =>
 (fun j6 : Bool × (Int × Unit) × Unit × Unit → Prop =>
 Fk (!v3.1)
 (j6 (v3.1, (a1, ()), (), ()))
 (j6 (v3.1, (v3.2.1.1, ()), (), ()))) (fun v => SmA (.bp 65568 0) ∧ SmA (.bp 65600 0) ∧ SmA (.pv (I 0)) ∧ j6 v))) (fun j4 =>
 (fun j4 : Bool × (Int × Unit) × Unit × Unit × Unit → Prop =>
 Fk (!a3)
 (j2 (false, (0, ()), (), ()))
 (∃ x7, Cl 103 [.ip [I a0.due] 0, .ip [I a1] 0] [.pv (B x7)] ∧
 Fk x7
 (j4 (true, (w64 ((w64 (a1 + a2)) - 1), ()), (), (), ()))
 (Fk (a0.due == 0)
 (j4 (false, (a0.due, ()), (), (), ()))
 (j2 (false, (a0.due, ()), (), ()))))) (fun v => SmA (.bp 65568 0) ∧ SmA (.bp 65576 0) ∧ SmA (.bp 65600 0) ∧ SmA (.pv (I a1)) ∧ SmA (.pv (I 0)) ∧ j4 v))) (fun v => SmA (.bp 65568 0) ∧ SmA (.bp 65600 0) ∧ SmA (.pv (I 0)) ∧ j2 v))
theorem t49 (a0 : Ask) (a1 : Int) (a2 : Int) (a3 : Bool) {Φ : List RV → Prop} (h : P49 a0 a1 a2 a3 Φ) : CtP Tryz.prog 49 [eAsk a0, I a1, I a2, B a3] Φ :=
  ctP_by h 1000 [(3002, .fork [] []), (4001, .call [.pv .bool]), (4002, .fork [] []), (5003, .fork [] []), (9001, .fork [] []), (9998, .join [.k 4 (.bp 65568 0), .k 5 (.bp 65576 0), .k 8 (.bp 65600 0), .c 10 .bool, .box 65568 true [.h (.int .i64)], .box 65576 true [.k (.pv (I a1))], .box 65600 true [.k (.pv (I 0))]]), (11998, .join [.k 4 (.bp 65568 0), .k 8 (.bp 65600 0), .c 10 .bool, .box 65568 true [.h (.int .i64)], .box 65600 true [.k (.pv (I 0))]]), (12998, .join [.k 4 (.bp 65568 0), .k 8 (.bp 65600 0), .c 10 .bool, .box 65568 true [.h (.int .i64)], .box 65600 true [.k (.pv (I 0))]])] mixed Tryz.func49 rfl (by kernel_rfl) (by kernel_rfl)

/-- rel.Tick -/
def P13 (a0 : Rel) (a1 : List PV) (a2 : Int) (a3 : Int) (Φ : List RV → Prop) : Prop :=
 ∃ x1, Cl 16 [.agg [I a0.me, I (imin (w64 (a0.now + 1)) 4611686018427387904), I a0.keep.next, .sl false (List.map eItem a0.keep.l), .sl false (List.map eWin a0.win), .sl false (List.map I a0.top), .sl false (List.map eAsk a0.ask), .sl false (List.map lI a0.have_), .sl false (List.map I a0.lost), I 0], .sl false a1] [.pv (eRel x1)] ∧
 Ln (List.map eItem x1.keep.l) (Ln (List.map eWin x1.win) (Ln (List.map I x1.top) (Ln (List.map eAsk x1.ask) (Ln (List.map lI x1.have_) (Ln (List.map I x1.lost) (SmA (.pv (.sl false a1)) ∧ SmA (.pv (I a3)) ∧ SmA (.bp 65568 0) ∧ SmA (.bp 65584 0) ∧ SmA (.bp 65600 0) ∧ SmA (.bp 327760 0) ∧ SmA (.pv (I a2)) ∧ SmA (.pv (I 0)) ∧ SmA (.pv (I 0)) ∧ SmA (.pv (I 0)) ∧ SmA (.pv (.sl true [])) ∧ SmA (.pv (.sl true [])) ∧ SmA (.pv (.sl true [])) ∧ SmA (.pv (.sl true [])) ∧ SmA (.pv (.sl true [])) ∧ SmA (.pv (.sl true [])) ∧ SmA (.pv (I 0)) ∧ Lo (fun (L3 : List PV × Int × Int × (Int × Int × Int × (List PV) × (List PV) × (List PV) × (List PV) × (List PV) × (List PV) × Int × Unit) × Unit × Unit × ((List PV) × Unit) × Unit → Prop) (v2 : List PV × Int × Int × (Int × Int × Int × (List PV) × (List PV) × (List PV) × (List PV) × (List PV) × (List PV) × Int × Unit) × Unit × Unit × ((List PV) × Unit) × Unit) =>
 Fk (decide (v2.2.2.1 < v2.2.1))
 (Ix I v2.1 v2.2.2.1 fun x4 =>
 ∃ x5 x6, Cl 46 [.agg [I v2.2.2.2.1.2.2.1, .sl false v2.2.2.2.1.2.2.2.1], I x4] [.pv (eItem x5), .pv (B x6)] ∧
 Sz v2.2.2.2.2.2.2.1.1.length 1 168 (
 SmA (.pv (.sl false a1)) ∧ SmA (.pv (I a3)) ∧ SmA (.bp 65568 0) ∧ SmA (.bp 65584 0) ∧ SmA (.bp 65600 0) ∧ SmA (.bp 327760 0) ∧ SmA (.pv (I a2)) ∧ SmA (.pv (I 0)) ∧ SmA (.pv (I 0)) ∧ SmA (.pv (I 0)) ∧ SmA (.pv (.sl true [])) ∧ SmA (.pv (.sl true [])) ∧ SmA (.pv (.sl true [])) ∧ SmA (.pv (.sl true [])) ∧ SmA (.pv (.sl true [])) ∧ SmA (.pv (.sl true [])) ∧ SmA (.pv (I 0)) ∧ L3 (v2.1, v2.2.1, w64 (v2.2.2.1 + 1), (v2.2.2.2.1.1, v2.2.2.2.1.2.1, v2.2.2.2.1.2.2.1, v2.2.2.2.1.2.2.2.1, v2.2.2.2.1.2.2.2.2.1, v2.2.2.2.1.2.2.2.2.2.1, v2.2.2.2.1.2.2.2.2.2.2.1, v2.2.2.2.1.2.2.2.2.2.2.2.1, v2.2.2.2.1.2.2.2.2.2.2.2.2.1, v2.2.2.2.1.2.2.2.2.2.2.2.2.2.1, ()), (), (), (v2.2.2.2.2.2.2.1.1 ++ [.agg [I 2, I v2.2.2.2.1.1, I x5.kind, I x5.seq, I x5.epoch, I x5.index, I x5.total, I x5.count, .sl false (List.map I x5.l), .sl false (List.map U8 x5.body), I 0, I 0, I 0, I 0, .sl false []]], ()), ())))
 (Fn_ Tryz.prog 47 Tryz.f47 (
 Fn_ Tryz.prog 102 Tryz.f102 (
 Ln v2.2.2.2.1.2.2.2.1 (Ln v2.2.2.2.1.2.2.2.2.1 (Ln v2.2.2.2.1.2.2.2.2.2.1 (Ln v2.2.2.2.1.2.2.2.2.2.2.1 (Ln v2.2.2.2.1.2.2.2.2.2.2.2.1 (Ln [] (SmA (.yl 917500) ∧ SmA (.bp 720904 0) ∧ SmA (.pv (.sl true [])) ∧ SmA (.pv (I a2)) ∧ SmA (.pv (I 0)) ∧ SmA (.pv (I 0)) ∧ SmA (.pv (I 0)) ∧ SmA (.pv (.sl true [])) ∧ SmA (.pv (.sl true [])) ∧ SmA (.pv (.sl true [])) ∧ SmA (.pv (.sl true [])) ∧ SmA (.pv (.sl true [])) ∧ SmA (.pv (.sl true [])) ∧ SmA (.pv (I 0)) ∧ SmA (.pv (.sl true [])) ∧ Lo (fun (L8 : Int × Int × (Int × Int × Int × (List PV) × (List PV) × (List PV) × (List PV) × (List PV) × Int × Unit) × Unit × Unit × ((List PV) × Unit) × (Int × Int × Int × (List PV) × (List PV) × (List PV) × (List PV) × (List PV) × Int × Unit) × Unit → Prop) (v7 : Int × Int × (Int × Int × Int × (List PV) × (List PV) × (List PV) × (List PV) × (List PV) × Int × Unit) × Unit × Unit × ((List PV) × Unit) × (Int × Int × Int × (List PV) × (List PV) × (List PV) × (List PV) × (List PV) × Int × Unit) × Unit) =>
 Fk (decide (v7.2.1 < v7.1))
 (Jn (fun v9 : Int × Int × (Int × Int × Int × (List PV) × (List PV) × (List PV) × (List PV) × (List PV) × Int × Unit) × Unit × Unit × ((List PV) × Unit) × (Int × Int × Int × (List PV) × (List PV) × (List PV) × (List PV) × (List PV) × Int × Unit) × Unit =>
 SmA (.yl 917500) ∧ SmA (.bp 720904 0) ∧ SmA (.pv (.sl true [])) ∧ SmA (.pv (I a2)) ∧ SmA (.pv (I 0)) ∧ SmA (.pv (I 0)) ∧ SmA (.pv (I 0)) ∧ SmA (.pv (.sl true [])) ∧ SmA (.pv (.sl true [])) ∧ SmA (.pv (.sl true [])) ∧ SmA (.pv (.sl true [])) ∧ SmA (.pv (.sl true [])) ∧ SmA (.pv (.sl true [])) ∧ SmA (.pv (I 0)) ∧ SmA (.pv (.sl true [])) ∧ L8 (v9.1, w64 (v9.2.1 + 1), (v9.2.2.1.1, v9.2.2.1.2.1, v9.2.2.1.2.2.1, v9.2.2.1.2.2.2.1, v9.2.2.1.2.2.2.2.1, v9.2.2.1.2.2.2.2.2.1, v9.2.2.1.2.2.2.2.2.2.1, v9.2.2.1.2.2.2.2.2.2.2.1, v9.2.2.1.2.2.2.2.2.2.2.2.1, ()), (), (), (v9.2.2.2.2.2.1.1, ()), (v9.2.2.2.2.2.2.1.1, v9.2.2.2.2.2.2.1.2.1, v9.2.2.2.2.2.2.1.2.2.1, v9.2.2.2.2.2.2.1.2.2.2.1, v9.2.2.2.2.2.2.1.2.2.2.2.1, v9.2.2.2.2.2.2.1.2.2.2.2.2.1, v9.2.2.2.2.2.2.1.2.2.2.2.2.2.1, v9.2.2.2.2.2.2.1.2.2.2.2.2.2.2.1, v9.2.2.2.2.2.2.1.2.2.2.2.2.2.2.2.1, ()), ())) (fun j10 =>
 (fun j10 : Int × Int × (Int × Int × Int × (List PV) × (List PV) × (List PV) × (List PV) × (List PV) × Int × Unit) × Unit × Unit × ((List PV) × Unit) × (Int × Int × Int × (List PV) × (List PV) × (List PV) × (List PV) × (List PV) × Int × Unit) × Unit → Prop =>
 Fk (v7.2.1 != v7.2.2.2.2.2.2.1.1)
 (Ix eWin v7.2.2.1.2.2.2.2.1 v7.2.1 fun x11 =>
 Ix I v7.2.2.1.2.2.2.2.2.1 v7.2.1 fun x12 =>
 ∃ x13 x14, Cl 48 [eWin x11, I x12] [.pv (I x13), .pv (I x14)] ∧
 Ix eAsk v7.2.2.1.2.2.2.2.2.2.1 v7.2.1 fun x15 =>
 ∃ x16 x17, Cl 49 [eAsk x15, I v7.2.2.1.2.1, I a2, B (decide (0 < x14))] [.pv (eAsk x16), .pv (B x17)] ∧
 ∃ x18, Cl 50 [.sl false v7.2.2.1.2.2.2.2.2.2.1, I v7.2.1, eAsk x16] [.pv (.sl false (List.map eAsk x18))] ∧
 Fk x17
 (Sz v7.2.2.2.2.2.1.1.length 1 168 (
 j10 (v7.1, v7.2.1, (v7.2.2.1.1, v7.2.2.1.2.1, v7.2.2.1.2.2.1, v7.2.2.1.2.2.2.1, v7.2.2.1.2.2.2.2.1, v7.2.2.1.2.2.2.2.2.1, List.map eAsk x18, v7.2.2.1.2.2.2.2.2.2.2.1, v7.2.2.1.2.2.2.2.2.2.2.2.1, ()), (), (), (v7.2.2.2.2.2.1.1 ++ [.agg [I 3, I v7.2.2.1.1, I 0, I 0, I 0, I 0, I 0, I 0, .sl false [], .sl false [], I v7.2.1, I x13, I x14, I 0, .sl false []]], ()), (v7.2.2.2.2.2.2.1.1, v7.2.2.2.2.2.2.1.2.1, v7.2.2.2.2.2.2.1.2.2.1, v7.2.2.2.2.2.2.1.2.2.2.1, v7.2.2.2.2.2.2.1.2.2.2.2.1, v7.2.2.2.2.2.2.1.2.2.2.2.2.1, v7.2.2.2.2.2.2.1.2.2.2.2.2.2.1, v7.2.2.2.2.2.2.1.2.2.2.2.2.2.2.1, v7.2.2.2.2.2.2.1.2.2.2.2.2.2.2.2.1, ()), ())))
 (j10 (v7.1, v7.2.1, (v7.2.2.1.1, v7.2.2.1.2.1, v7.2.2.1.2.2.1, v7.2.2.1.2.2.2.1, v7.2.2.1.2.2.2.2.1, v7.2.2.1.2.2.2.2.2.1, List.map eAsk x18, v7.2.2.1.2.2.2.2.2.2.2.1, v7.2.2.1.2.2.2.2.2.2.2.2.1, ()), (), (), (v7.2.2.2.2.2.1.1, ()), (v7.2.2.2.2.2.2.1.1, v7.2.2.2.2.2.2.1.2.1, v7.2.2.2.2.2.2.1.2.2.1, v7.2.2.2.2.2.2.1.2.2.2.1, v7.2.2.2.2.2.2.1.2.2.2.2.1, v7.2.2.2.2.2.2.1.2.2.2.2.2.1, v7.2.2.2.2.2.2.1.2.2.2.2.2.2.1, v7.2.2.2.2.2.2.1.2.2.2.2.2.2.2.1, v7.2.2.2.2.2.2.1.2.2.2.2.2.2.2.2.1, ()), ())))
 (j10 (v7.1, v7.2.1, (v7.2.2.1.1, v7.2.2.1.2.1, v7.2.2.1.2.2.1, v7.2.2.1.2.2.2.1, v7.2.2.1.2.2.2.2.1, v7.2.2.1.2.2.2.2.2.1, v7.2.2.1.2.2.2.2.2.2.1, v7.2.2.1.2.2.2.2.2.2.2.1, v7.2.2.1.2.2.2.2.2.2.2.2.1, ()), (), (), (v7.2.2.2.2.2.1.1, ()), (v7.2.2.2.2.2.2.1.1, v7.2.2.2.2.2.2.1.2.1, v7.2.2.2.2.2.2.1.2.2.1, v7.2.2.2.2.2.2.1.2.2.2.1, v7.2.2.2.2.2.2.1.2.2.2.2.1, v7.2.2.2.2.2.2.1.2.2.2.2.2.1, v7.2.2.2.2.2.2.1.2.2.2.2.2.2.1, v7.2.2.2.2.2.2.1.2.2.2.2.2.2.2.1, v7.2.2.2.2.2.2.1.2.2.2.2.2.2.2.2.1, ()), ()))) (fun v => SmA (.yl 917500) ∧ SmA (.bp 720904 0) ∧ SmA (.pv (.sl true [])) ∧ SmA (.pv (I a2)) ∧ SmA (.pv (I 0)) ∧ SmA (.pv (I 0)) ∧ SmA (.pv (I 0)) ∧ SmA (.pv (.sl true [])) ∧ SmA (.pv (.sl true [])) ∧ SmA (.pv (.sl true [])) ∧ SmA (.pv (.sl true [])) ∧ SmA (.pv (.sl true [])) ∧ SmA (.pv (.sl true [])) ∧ SmA (.pv (I 0)) ∧ SmA (.pv (.sl true [])) ∧ j10 v)))
 (Jn (fun v19 : (Int × Int × Int × (List PV) × (List PV) × (List PV) × (List PV) × (List PV) × Int × Unit) × Unit × ((List PV) × Unit) × Unit =>
 Φ [.pv (.agg [I v19.1.1, I v19.1.2.1, I v19.1.2.2.1, .sl false v19.1.2.2.2.1, .sl false v19.1.2.2.2.2.1, .sl false v19.1.2.2.2.2.2.1, .sl false v19.1.2.2.2.2.2.2.1, .sl false v19.1.2.2.2.2.2.2.2.1, .sl true [], I v19.1.2.2.2.2.2.2.2.2.1]), .fresh 35 15 v19.2.2.1.1]) (fun j20 =>
 (fun j20 : (Int × Int × Int × (List PV) × (List PV) × (List PV) × (List PV) × (List PV) × Int × Unit) × Unit × ((List PV) × Unit) × Unit → Prop =>
 Nz a3 (
 Fk ((Int.tmod v7.2.2.1.2.1 a3) == 0)
 (∃ x21, Cl 51 [.sl false a1] [.fresh 3 1 x21] ∧
 Sz v7.2.2.2.2.2.1.1.length 1 168 (
 j20 ((v7.2.2.1.1, v7.2.2.1.2.1, v7.2.2.1.2.2.1, v7.2.2.1.2.2.2.1, v7.2.2.1.2.2.2.2.1, v7.2.2.1.2.2.2.2.2.1, v7.2.2.1.2.2.2.2.2.2.1, v7.2.2.1.2.2.2.2.2.2.2.1, v7.2.2.1.2.2.2.2.2.2.2.2.1, ()), (), (v7.2.2.2.2.2.1.1 ++ [.agg [I 4, I v7.2.2.1.1, I 0, I 0, I 0, I 0, I 0, I 0, .sl false [], .sl false [], I 0, I 0, I 0, I (w64 (v7.2.2.1.2.2.1 - 1)), .sl false x21]], ()), ())))
 (j20 ((v7.2.2.1.1, v7.2.2.1.2.1, v7.2.2.1.2.2.1, v7.2.2.1.2.2.2.1, v7.2.2.1.2.2.2.2.1, v7.2.2.1.2.2.2.2.2.1, v7.2.2.1.2.2.2.2.2.2.1, v7.2.2.1.2.2.2.2.2.2.2.1, v7.2.2.1.2.2.2.2.2.2.2.2.1, ()), (), (v7.2.2.2.2.2.1.1, ()), ())))) (fun v => SmA (.bp 65568 0) ∧ SmA (.bp 65600 0) ∧ SmA (.bp 327760 0) ∧ SmA (.pv (.sl true [])) ∧ SmA (.pv (I 0)) ∧ SmA (.pv (I 0)) ∧ SmA (.pv (I 0)) ∧ SmA (.pv (.sl true [])) ∧ SmA (.pv (.sl true [])) ∧ SmA (.pv (.sl true [])) ∧ SmA (.pv (.sl true [])) ∧ SmA (.pv (.sl true [])) ∧ SmA (.pv (.sl true [])) ∧ SmA (.pv (I 0)) ∧ j20 v)))) ((v2.2.2.2.1.2.2.2.2.1.length : Int), 0, (v2.2.2.2.1.1, v2.2.2.2.1.2.1, v2.2.2.2.1.2.2.1, v2.2.2.2.1.2.2.2.1, v2.2.2.2.1.2.2.2.2.1, v2.2.2.2.1.2.2.2.2.2.1, v2.2.2.2.1.2.2.2.2.2.2.1, v2.2.2.2.1.2.2.2.2.2.2.2.1, v2.2.2.2.1.2.2.2.2.2.2.2.2.2.1, ()), (), (), (v2.2.2.2.2.2.2.1.1, ()), (v2.2.2.2.1.1, v2.2.2.2.1.2.1, v2.2.2.2.1.2.2.1, v2.2.2.2.1.2.2.2.1, v2.2.2.2.1.2.2.2.2.1, v2.2.2.2.1.2.2.2.2.2.1, v2.2.2.2.1.2.2.2.2.2.2.1, v2.2.2.2.1.2.2.2.2.2.2.2.1, v2.2.2.2.1.2.2.2.2.2.2.2.2.2.1, ()), ()))))))))))) (List.map I x1.lost, ((List.map I x1.lost).length : Int), 0, (x1.me, x1.now, x1.keep.next, List.map eItem x1.keep.l, List.map eWin x1.win, List.map I x1.top, List.map eAsk x1.ask, List.map lI x1.have_, List.map I x1.lost, x1.naks, ()), (), (), ([], ()), ())))))))
theorem t13 (a0 : Rel) (a1 : List PV) (a2 : Int) (a3 : Int) {Φ : List RV → Prop} (h : P13 a0 a1 a2 a3 Φ) : CtP Tryz.prog 13 [eRel a0, .sl false a1, I a2, I a3] Φ :=
  ctP_by h 1000 [(3002, .call [.pv (.ty Rel eRel)]), (5997, .lens [4]), (6000, .fork [] []), (6999, .loop [.k 1 (.pv (.sl false a1)), .k 3 (.pv (I a3)), .k 4 (.bp 65568 0), .k 6 (.bp 65584 0), .k 8 (.bp 65600 0), .k 10 (.bp 327760 0), .c 30 .sl, .c 31 (.int .i64), .c 32 (.int .i64), .box 65568 true [.h (.int .i64), .h (.int .i64), .h (.int .i64), .h .sl, .h .sl, .h .sl, .h .sl, .h .sl, .h .sl, .h (.int .i64)], .box 65584 true [.k (.pv (I a2))], .box 65600 true [.k (.pv (I 0)), .k (.pv (I 0)), .k (.pv (I 0)), .k (.pv (.sl true [])), .k (.pv (.sl true [])), .k (.pv (.sl true [])), .k (.pv (.sl true [])), .k (.pv (.sl true [])), .k (.pv (.sl true [])), .k (.pv (I 0))], .box 327760 true [.r 458755 35 15]]), (7000, .ix Int I), (8003, .call [.pv (.ty Item eItem), .pv .bool]), (9004, .dull), (9006, .app false false), (12001, .inl Tryz.f47 [65568, 65584, 65600, 327760] []), (13995, .rng Tryz.f102 [65568, 65584, 65600, 327760] [(997, .lens [1]), (1000, .fork [] []), (1999, .loop [.k 0 (.yl 917500), .k 1 (.bp 720904 0), .c 6 (.int .i64), .c 7 (.int .i64), .lp 917500 false, .box 65568 true [.h (.int .i64), .h (.int .i64), .h (.int .i64), .h .sl, .h .sl, .h .sl, .h .sl, .h .sl, .k (.pv (.sl true [])), .h (.int .i64)], .box 65584 true [.k (.pv (I a2))], .box 65600 true [.k (.pv (I 0)), .k (.pv (I 0)), .k (.pv (I 0)), .k (.pv (.sl true [])), .k (.pv (.sl true [])), .k (.pv (.sl true [])), .k (.pv (.sl true [])), .k (.pv (.sl true [])), .k (.pv (.sl true [])), .k (.pv (I 0))], .box 327760 true [.r 983043 35 15], .box 720904 true [.h (.int .i64), .h (.int .i64), .h (.int .i64), .h .sl, .h .sl, .h .sl, .h .sl, .h .sl, .k (.pv (.sl true [])), .h (.int .i64)]]), (3004, .fork [] []), (3007, .yld [65568, 65584, 65600, 327760, 720904, 917500] [(14003, .ix Win eWin), (14008, .ix Int I), (14010, .call [.pv (.int .i64), .pv (.int .i64)]), (15003, .ix Ask eAsk), (15010, .call [.pv (.ty Ask eAsk), .pv .bool]), (16004, .call [.pv (.ty (List Ask) lAsk)]), (17000, .fork [] []), (18006, .dull), (18008, .app false false)]), (4998, .join [.k 0 (.yl 917500), .k 1 (.bp 720904 0), .c 6 (.int .i64), .c 7 (.int .i64), .lp 917500 false, .box 65568 true [.h (.int .i64), .h (.int .i64), .h (.int .i64), .h .sl, .h .sl, .h .sl, .h .sl, .h .sl, .k (.pv (.sl true [])), .h (.int .i64)], .box 65584 true [.k (.pv (I a2))], .box 65600 true [.k (.pv (I 0)), .k (.pv (I 0)), .k (.pv (I 0)), .k (.pv (.sl true [])), .k (.pv (.sl true [])), .k (.pv (.sl true [])), .k (.pv (.sl true [])), .k (.pv (.sl true [])), .k (.pv (.sl true [])), .k (.pv (I 0))], .box 327760 true [.r 1114115 35 15], .box 720904 true [.h (.int .i64), .h (.int .i64), .h (.int .i64), .h .sl, .h .sl, .h .sl, .h .sl, .h .sl, .k (.pv (.sl true [])), .h (.int .i64)]])]), (19003, .div), (19004, .fork [] []), (20008, .call [.row 3 1]), (20009, .frz), (20011, .app false false), (21998, .join [.k 4 (.bp 65568 0), .k 8 (.bp 65600 0), .k 10 (.bp 327760 0), .box 65568 true [.h (.int .i64), .h (.int .i64), .h (.int .i64), .h .sl, .h .sl, .h .sl, .h .sl, .h .sl, .k (.pv (.sl true [])), .h (.int .i64)], .box 65600 true [.k (.pv (I 0)), .k (.pv (I 0)), .k (.pv (I 0)), .k (.pv (.sl true [])), .k (.pv (.sl true [])), .k (.pv (.sl true [])), .k (.pv (.sl true [])), .k (.pv (.sl true [])), .k (.pv (.sl true [])), .k (.pv (I 0))], .box 327760 true [.r 1114115 35 15]])] mixed Tryz.func13 rfl (by kernel_rfl) (by kernel_rfl)

/-- rel.within -/
def P69 (a0 : Int) (a1 : Int) (a2 : Int) (Φ : List RV → Prop) : Prop :=
 Fk (decide (a1 ≤ a0))
 (Φ [.pv (B (decide (a0 ≤ a2)))])
 (Φ [.pv (B false)])
theorem t69 (a0 : Int) (a1 : Int) (a2 : Int) {Φ : List RV → Prop} (h : P69 a0 a1 a2 Φ) : CtP Tryz.prog 69 [I a0, I a1, I a2] Φ :=
  ctP_by h 1000 [(1003, .fork [] [])] mixed Tryz.func69 rfl (by kernel_rfl) (by kernel_rfl)

/-- rel.count -/
def P73 (a0 : Int) (Φ : List RV → Prop) : Prop :=
 ∃ x1, Cl 69 [I a0, I 0, I 4611686018427387904] [.pv (B x1)] ∧
 Φ [.pv (B x1)]
theorem t73 (a0 : Int) {Φ : List RV → Prop} (h : P73 a0 Φ) : CtP Tryz.prog 73 [I a0] Φ :=
  ctP_by h 1000 [(1001, .call [.pv .bool])] mixed Tryz.func73 rfl (by kernel_rfl) (by kernel_rfl)

/-- rel.all[int]$1 -/
def P113a (b0 : Int) (Φ : List RV → Prop) : Prop :=
 ∃ x1, Cl 73 [I b0] [.pv (B x1)] ∧
 Φ [.pv (B (!x1))]
theorem t113a (b0 : Int) {Φ : List RV → Prop} (h : P113a b0 Φ) : CtP Tryz.prog 113 [I b0, .ip [.fn (.func 73) [] []] 0] Φ :=
  ctP_by h 1000 [(1002, .call [.pv .bool])] mixed Tryz.func113 rfl (by kernel_rfl) (by kernel_rfl)

/-- slices.IndexFunc[[]int,int] -/
def P108a (b0 : List PV) (Φ : List RV → Prop) : Prop :=
 Ln b0 (SmA (.pv (.sl false b0)) ∧ SmA (.pv (.fn (.func 113) [] [.ip [.fn (.func 73) [] []] 0])) ∧ SmA (.pv (I (b0.length : Int))) ∧ Lo (fun (L2 : Int × Unit → Prop) (v1 : Int × Unit) =>
 Fk (decide (v1.1 < (b0.length : Int)))
 (Ix I b0 v1.1 fun x3 =>
 ∃ x4, Cl 113 [I x3, .ip [.fn (.func 73) [] []] 0] [.pv (B x4)] ∧
 Fk x4
 (Φ [.pv (I v1.1)])
 (SmA (.pv (.sl false b0)) ∧ SmA (.pv (.fn (.func 113) [] [.ip [.fn (.func 73) [] []] 0])) ∧ SmA (.pv (I (b0.length : Int))) ∧ L2 (w64 (v1.1 + 1), ())))
 (Φ [.pv (I (-1))])) (0, ()))
theorem t108a (b0 : List PV) {Φ : List RV → Prop} (h : P108a b0 Φ) : CtP Tryz.prog 108 [.sl false b0, .fn (.func 113) [] [.ip [.fn (.func 73) [] []] 0]] Φ :=
  ctP_by h 1000 [(1997, .lens [0]), (2000, .fork [] []), (2999, .loop [.k 0 (.pv (.sl false b0)), .k 1 (.pv (.fn (.func 113) [] [.ip [.fn (.func 73) [] []] 0])), .k 7 (.pv (I (b0.length : Int))), .c 8 (.int .i64)]), (4003, .ix Int I), (4005, .callf [.pv .bool] [] [])] mixed Tryz.func108 rfl (by kernel_rfl) (by kernel_rfl)

/-- slices.ContainsFunc[[]int,int] -/
def P112a (b0 : List PV) (Φ : List RV → Prop) : Prop :=
 ∃ x1, Cl 108 [.sl false b0, .fn (.func 113) [] [.ip [.fn (.func 73) [] []] 0]] [.pv (I x1)] ∧
 Φ [.pv (B (decide (0 ≤ x1)))]
theorem t112a (b0 : List PV) {Φ : List RV → Prop} (h : P112a b0 Φ) : CtP Tryz.prog 112 [.sl false b0, .fn (.func 113) [] [.ip [.fn (.func 73) [] []] 0]] Φ :=
  ctP_by h 1000 [(1002, .call [.pv (.int .i64)])] mixed Tryz.func112 rfl (by kernel_rfl) (by kernel_rfl)

/-- rel.all[int] -/
def P72a (b0 : List PV) (Φ : List RV → Prop) : Prop :=
 ∃ x1, Cl 112 [.sl false b0, .fn (.func 113) [] [.ip [.fn (.func 73) [] []] 0]] [.pv (B x1)] ∧
 Φ [.pv (B (!x1))]
theorem t72a (b0 : List PV) {Φ : List RV → Prop} (h : P72a b0 Φ) : CtP Tryz.prog 72 [.sl false b0, .fn (.func 73) [] []] Φ :=
  ctP_by h 1000 [(1002, .call [.pv .bool])] mixed Tryz.func72 rfl (by kernel_rfl) (by kernel_rfl)

/-- rel.Right$1 -/
def P71a (b0 : List PV) (b1 : Int) (Φ : List RV → Prop) : Prop :=
 Ln b0 (Fk ((b0.length : Int) == b1)
 (∃ x1, Cl 72 [.sl false b0, .fn (.func 73) [] []] [.pv (B x1)] ∧
 Φ [.pv (B x1)])
 (Φ [.pv (B false)]))
theorem t71a (b0 : List PV) (b1 : Int) {Φ : List RV → Prop} (h : P71a b0 b1 Φ) : CtP Tryz.prog 71 [.sl false b0, .ip [I b1] 0] Φ :=
  ctP_by h 1000 [(1004, .fork [] []), (1006, .call [.pv .bool]), (1997, .lens [0])] mixed Tryz.func71 rfl (by kernel_rfl) (by kernel_rfl)

/-- rel.all[[]int]$1 -/
def P111a (b0 : List PV) (b1 : Int) (Φ : List RV → Prop) : Prop :=
 ∃ x1, Cl 71 [.sl false b0, .ip [I b1] 0] [.pv (B x1)] ∧
 Φ [.pv (B (!x1))]
theorem t111a (b0 : List PV) (b1 : Int) {Φ : List RV → Prop} (h : P111a b0 b1 Φ) : CtP Tryz.prog 111 [.sl false b0, .ip [.fn (.func 71) [] [.ip [I b1] 0]] 0] Φ :=
  ctP_by h 1000 [(1002, .call [.pv .bool])] mixed Tryz.func111 rfl (by kernel_rfl) (by kernel_rfl)

/-- slices.IndexFunc[[][]int,[]int] -/
def P127a (b0 : List PV) (b1 : Int) (Φ : List RV → Prop) : Prop :=
 Ln b0 (SmA (.pv (.sl false b0)) ∧ SmA (.pv (.fn (.func 111) [] [.ip [.fn (.func 71) [] [.ip [I b1] 0]] 0])) ∧ SmA (.pv (I (b0.length : Int))) ∧ Lo (fun (L2 : Int × Unit → Prop) (v1 : Int × Unit) =>
 Fk (decide (v1.1 < (b0.length : Int)))
 (Ix lI b0 v1.1 fun x3 =>
 ∃ x4, Cl 111 [.sl false (List.map I x3), .ip [.fn (.func 71) [] [.ip [I b1] 0]] 0] [.pv (B x4)] ∧
 Fk x4
 (Φ [.pv (I v1.1)])
 (SmA (.pv (.sl false b0)) ∧ SmA (.pv (.fn (.func 111) [] [.ip [.fn (.func 71) [] [.ip [I b1] 0]] 0])) ∧ SmA (.pv (I (b0.length : Int))) ∧ L2 (w64 (v1.1 + 1), ())))
 (Φ [.pv (I (-1))])) (0, ()))
theorem t127a (b0 : List PV) (b1 : Int) {Φ : List RV → Prop} (h : P127a b0 b1 Φ) : CtP Tryz.prog 127 [.sl false b0, .fn (.func 111) [] [.ip [.fn (.func 71) [] [.ip [I b1] 0]] 0]] Φ :=
  ctP_by h 1000 [(1997, .lens [0]), (2000, .fork [] []), (2999, .loop [.k 0 (.pv (.sl false b0)), .k 1 (.pv (.fn (.func 111) [] [.ip [.fn (.func 71) [] [.ip [I b1] 0]] 0])), .k 7 (.pv (I (b0.length : Int))), .c 8 (.int .i64)]), (4003, .ix (List Int) lI), (4005, .callf [.pv .bool] [] [])] mixed Tryz.func127 rfl (by kernel_rfl) (by kernel_rfl)

/-- slices.ContainsFunc[[][]int,[]int] -/
def P110a (b0 : List PV) (b1 : Int) (Φ : List RV → Prop) : Prop :=
 ∃ x1, Cl 127 [.sl false b0, .fn (.func 111) [] [.ip [.fn (.func 71) [] [.ip [I b1] 0]] 0]] [.pv (I x1)] ∧
 Φ [.pv (B (decide (0 ≤ x1)))]
theorem t110a (b0 : List PV) (b1 : Int) {Φ : List RV → Prop} (h : P110a b0 b1 Φ) : CtP Tryz.prog 110 [.sl false b0, .fn (.func 111) [] [.ip [.fn (.func 71) [] [.ip [I b1] 0]] 0]] Φ :=
  ctP_by h 1000 [(1002, .call [.pv (.int .i64)])] mixed Tryz.func110 rfl (by kernel_rfl) (by kernel_rfl)

/-- rel.all[[]int] -/
def P70a (b0 : List PV) (b1 : Int) (Φ : List RV → Prop) : Prop :=
 ∃ x1, Cl 110 [.sl false b0, .fn (.func 111) [] [.ip [.fn (.func 71) [] [.ip [I b1] 0]] 0]] [.pv (B x1)] ∧
 Φ [.pv (B (!x1))]
theorem t70a (b0 : List PV) (b1 : Int) {Φ : List RV → Prop} (h : P70a b0 b1 Φ) : CtP Tryz.prog 70 [.sl false b0, .fn (.func 71) [] [.ip [I b1] 0]] Φ :=
  ctP_by h 1000 [(1002, .call [.pv .bool])] mixed Tryz.func70 rfl (by kernel_rfl) (by kernel_rfl)

/-- rel.Right$2 -/
def P75 (a0 : Ask) (Φ : List RV → Prop) : Prop :=
 ∃ x1, Cl 69 [I a0.due, I 0, I 4611686018427388904] [.pv (B x1)] ∧
 Φ [.pv (B x1)]
theorem t75 (a0 : Ask) {Φ : List RV → Prop} (h : P75 a0 Φ) : CtP Tryz.prog 75 [eAsk a0] Φ :=
  ctP_by h 1000 [(1002, .call [.pv .bool])] mixed Tryz.func75 rfl (by kernel_rfl) (by kernel_rfl)

/-- rel.all[api.Ask]$1 -/
def P115a (b0 : Ask) (Φ : List RV → Prop) : Prop :=
 ∃ x1, Cl 75 [eAsk b0] [.pv (B x1)] ∧
 Φ [.pv (B (!x1))]
theorem t115a (b0 : Ask) {Φ : List RV → Prop} (h : P115a b0 Φ) : CtP Tryz.prog 115 [eAsk b0, .ip [.fn (.func 75) [] []] 0] Φ :=
  ctP_by h 1000 [(1002, .call [.pv .bool])] mixed Tryz.func115 rfl (by kernel_rfl) (by kernel_rfl)

/-- slices.IndexFunc[[]api.Ask,api.Ask] -/
def P128a (b0 : List PV) (Φ : List RV → Prop) : Prop :=
 Ln b0 (SmA (.pv (.sl false b0)) ∧ SmA (.pv (.fn (.func 115) [] [.ip [.fn (.func 75) [] []] 0])) ∧ SmA (.pv (I (b0.length : Int))) ∧ Lo (fun (L2 : Int × Unit → Prop) (v1 : Int × Unit) =>
 Fk (decide (v1.1 < (b0.length : Int)))
 (Ix eAsk b0 v1.1 fun x3 =>
 ∃ x4, Cl 115 [eAsk x3, .ip [.fn (.func 75) [] []] 0] [.pv (B x4)] ∧
 Fk x4
 (Φ [.pv (I v1.1)])
 (SmA (.pv (.sl false b0)) ∧ SmA (.pv (.fn (.func 115) [] [.ip [.fn (.func 75) [] []] 0])) ∧ SmA (.pv (I (b0.length : Int))) ∧ L2 (w64 (v1.1 + 1), ())))
 (Φ [.pv (I (-1))])) (0, ()))
theorem t128a (b0 : List PV) {Φ : List RV → Prop} (h : P128a b0 Φ) : CtP Tryz.prog 128 [.sl false b0, .fn (.func 115) [] [.ip [.fn (.func 75) [] []] 0]] Φ :=
  ctP_by h 1000 [(1997, .lens [0]), (2000, .fork [] []), (2999, .loop [.k 0 (.pv (.sl false b0)), .k 1 (.pv (.fn (.func 115) [] [.ip [.fn (.func 75) [] []] 0])), .k 7 (.pv (I (b0.length : Int))), .c 8 (.int .i64)]), (4003, .ix Ask eAsk), (4005, .callf [.pv .bool] [] [])] mixed Tryz.func128 rfl (by kernel_rfl) (by kernel_rfl)

/-- slices.ContainsFunc[[]api.Ask,api.Ask] -/
def P114a (b0 : List PV) (Φ : List RV → Prop) : Prop :=
 ∃ x1, Cl 128 [.sl false b0, .fn (.func 115) [] [.ip [.fn (.func 75) [] []] 0]] [.pv (I x1)] ∧
 Φ [.pv (B (decide (0 ≤ x1)))]
theorem t114a (b0 : List PV) {Φ : List RV → Prop} (h : P114a b0 Φ) : CtP Tryz.prog 114 [.sl false b0, .fn (.func 115) [] [.ip [.fn (.func 75) [] []] 0]] Φ :=
  ctP_by h 1000 [(1002, .call [.pv (.int .i64)])] mixed Tryz.func114 rfl (by kernel_rfl) (by kernel_rfl)

/-- rel.all[api.Ask] -/
def P74a (b0 : List PV) (Φ : List RV → Prop) : Prop :=
 ∃ x1, Cl 114 [.sl false b0, .fn (.func 115) [] [.ip [.fn (.func 75) [] []] 0]] [.pv (B x1)] ∧
 Φ [.pv (B (!x1))]
theorem t74a (b0 : List PV) {Φ : List RV → Prop} (h : P74a b0 Φ) : CtP Tryz.prog 74 [.sl false b0, .fn (.func 75) [] []] Φ :=
  ctP_by h 1000 [(1002, .call [.pv .bool])] mixed Tryz.func74 rfl (by kernel_rfl) (by kernel_rfl)

/-- keep.Right -/
def P76 (a0 : Keep) (Φ : List RV → Prop) : Prop :=
 Ln (List.map eItem a0.l) (SmA (.bp 65544 0) ∧ SmA (.pv (.sl false (List.map eItem a0.l))) ∧ SmA (.pv (I ((List.map eItem a0.l).length : Int))) ∧ SmA (.pv (I a0.next)) ∧ SmA (.pv (.sl false (List.map eItem a0.l))) ∧ Lo (fun (L2 : Int × Unit × Unit → Prop) (v1 : Int × Unit × Unit) =>
 Fk (decide (v1.1 < ((List.map eItem a0.l).length : Int)))
 (Ix eItem (List.map eItem a0.l) v1.1 fun x3 =>
 ∃ x4, Cl 92 [eItem x3] [.pv (B x4)] ∧
 Fk (!x4)
 (Φ [.pv (B false)])
 (Fk (x3.seq != (w64 ((w64 (a0.next - ((List.map eItem a0.l).length : Int))) + v1.1)))
 (Φ [.pv (B false)])
 (SmA (.bp 65544 0) ∧ SmA (.pv (.sl false (List.map eItem a0.l))) ∧ SmA (.pv (I ((List.map eItem a0.l).length : Int))) ∧ SmA (.pv (I a0.next)) ∧ SmA (.pv (.sl false (List.map eItem a0.l))) ∧ L2 (w64 (v1.1 + 1), (), ()))))
 (Fk (decide (((List.map eItem a0.l).length : Int) ≤ 64))
 (Fk (decide (1 ≤ a0.next))
 (Φ [.pv (B (decide (a0.next ≤ 4611686018427387905)))])
 (Φ [.pv (B false)]))
 (Φ [.pv (B false)]))) (0, (), ()))
theorem t76 (a0 : Keep) {Φ : List RV → Prop} (h : P76 a0 Φ) : CtP Tryz.prog 76 [eKeep a0] Φ :=
  ctP_by h 1000 [(1997, .lens [1]), (2000, .fork [] []), (2999, .loop [.k 1 (.bp 65544 0), .k 6 (.pv (.sl false (List.map eItem a0.l))), .k 7 (.pv (I ((List.map eItem a0.l).length : Int))), .c 8 (.int .i64), .box 65544 true [.k (.pv (I a0.next)), .k (.pv (.sl false (List.map eItem a0.l)))]]), (3001, .ix Item eItem), (4001, .call [.pv .bool]), (4003, .fork [(4015, .off)] []), (4015, .fork [] []), (7004, .fork [] [(7009, .off)]), (7009, .fork [] [])] mixed Tryz.func76 rfl (by kernel_rfl) (by kernel_rfl)

/-- win.Right -/
def P78 (a0 : Win) (Φ : List RV → Prop) : Prop :=
 Ln (List.map eItem a0.l) (SmA (.bp 65544 0) ∧ SmA (.pv (.sl false (List.map eItem a0.l))) ∧ SmA (.pv (I ((List.map eItem a0.l).length : Int))) ∧ SmA (.pv (I a0.next)) ∧ SmA (.pv (.sl false (List.map eItem a0.l))) ∧ Lo (fun (L2 : Int × Int × Unit × Unit → Prop) (v1 : Int × Int × Unit × Unit) =>
 Fk (decide (v1.2.1 < ((List.map eItem a0.l).length : Int)))
 (Ix eItem (List.map eItem a0.l) v1.2.1 fun x3 =>
 ∃ x4, Cl 92 [eItem x3] [.pv (B x4)] ∧
 Fk (!x4)
 (Φ [.pv (B false)])
 (Fk (decide (x3.seq < v1.1))
 (Φ [.pv (B false)])
 (SmA (.bp 65544 0) ∧ SmA (.pv (.sl false (List.map eItem a0.l))) ∧ SmA (.pv (I ((List.map eItem a0.l).length : Int))) ∧ SmA (.pv (I a0.next)) ∧ SmA (.pv (.sl false (List.map eItem a0.l))) ∧ L2 (w64 (x3.seq + 1), w64 (v1.2.1 + 1), (), ()))))
 (Fk (decide (1 ≤ a0.next))
 (Fk (decide (a0.next ≤ 4611686018427387905))
 (Φ [.pv (B (decide (((List.map eItem a0.l).length : Int) ≤ 64)))])
 (Φ [.pv (B false)]))
 (Φ [.pv (B false)]))) (a0.next, 0, (), ()))
theorem t78 (a0 : Win) {Φ : List RV → Prop} (h : P78 a0 Φ) : CtP Tryz.prog 78 [eWin a0] Φ :=
  ctP_by h 1000 [(2997, .lens [1]), (3000, .fork [] []), (3999, .loop [.k 1 (.bp 65544 0), .c 3 (.int .i64), .k 9 (.pv (.sl false (List.map eItem a0.l))), .k 10 (.pv (I ((List.map eItem a0.l).length : Int))), .c 11 (.int .i64), .box 65544 true [.k (.pv (I a0.next)), .k (.pv (.sl false (List.map eItem a0.l)))]]), (4000, .ix Item eItem), (5001, .call [.pv .bool]), (5003, .fork [(5008, .off)] []), (5008, .fork [] []), (9003, .fork [] [(9008, .off)]), (9008, .fork [] [])] mixed Tryz.func78 rfl (by kernel_rfl) (by kernel_rfl)

/-- rel.all[api.Win]$1 -/
def P117a (b0 : Win) (Φ : List RV → Prop) : Prop :=
 ∃ x1, Cl 78 [eWin b0] [.pv (B x1)] ∧
 Φ [.pv (B (!x1))]
theorem t117a (b0 : Win) {Φ : List RV → Prop} (h : P117a b0 Φ) : CtP Tryz.prog 117 [eWin b0, .ip [.fn (.func 78) [] []] 0] Φ :=
  ctP_by h 1000 [(1002, .call [.pv .bool])] mixed Tryz.func117 rfl (by kernel_rfl) (by kernel_rfl)

/-- slices.IndexFunc[[]api.Win,api.Win] -/
def P129a (b0 : List PV) (Φ : List RV → Prop) : Prop :=
 Ln b0 (SmA (.pv (.sl false b0)) ∧ SmA (.pv (.fn (.func 117) [] [.ip [.fn (.func 78) [] []] 0])) ∧ SmA (.pv (I (b0.length : Int))) ∧ Lo (fun (L2 : Int × Unit → Prop) (v1 : Int × Unit) =>
 Fk (decide (v1.1 < (b0.length : Int)))
 (Ix eWin b0 v1.1 fun x3 =>
 ∃ x4, Cl 117 [eWin x3, .ip [.fn (.func 78) [] []] 0] [.pv (B x4)] ∧
 Fk x4
 (Φ [.pv (I v1.1)])
 (SmA (.pv (.sl false b0)) ∧ SmA (.pv (.fn (.func 117) [] [.ip [.fn (.func 78) [] []] 0])) ∧ SmA (.pv (I (b0.length : Int))) ∧ L2 (w64 (v1.1 + 1), ())))
 (Φ [.pv (I (-1))])) (0, ()))
theorem t129a (b0 : List PV) {Φ : List RV → Prop} (h : P129a b0 Φ) : CtP Tryz.prog 129 [.sl false b0, .fn (.func 117) [] [.ip [.fn (.func 78) [] []] 0]] Φ :=
  ctP_by h 1000 [(1997, .lens [0]), (2000, .fork [] []), (2999, .loop [.k 0 (.pv (.sl false b0)), .k 1 (.pv (.fn (.func 117) [] [.ip [.fn (.func 78) [] []] 0])), .k 7 (.pv (I (b0.length : Int))), .c 8 (.int .i64)]), (4003, .ix Win eWin), (4005, .callf [.pv .bool] [] [])] mixed Tryz.func129 rfl (by kernel_rfl) (by kernel_rfl)

/-- slices.ContainsFunc[[]api.Win,api.Win] -/
def P116a (b0 : List PV) (Φ : List RV → Prop) : Prop :=
 ∃ x1, Cl 129 [.sl false b0, .fn (.func 117) [] [.ip [.fn (.func 78) [] []] 0]] [.pv (I x1)] ∧
 Φ [.pv (B (decide (0 ≤ x1)))]
theorem t116a (b0 : List PV) {Φ : List RV → Prop} (h : P116a b0 Φ) : CtP Tryz.prog 116 [.sl false b0, .fn (.func 117) [] [.ip [.fn (.func 78) [] []] 0]] Φ :=
  ctP_by h 1000 [(1002, .call [.pv (.int .i64)])] mixed Tryz.func116 rfl (by kernel_rfl) (by kernel_rfl)

/-- rel.all[api.Win] -/
def P77a (b0 : List PV) (Φ : List RV → Prop) : Prop :=
 ∃ x1, Cl 116 [.sl false b0, .fn (.func 117) [] [.ip [.fn (.func 78) [] []] 0]] [.pv (B x1)] ∧
 Φ [.pv (B (!x1))]
theorem t77a (b0 : List PV) {Φ : List RV → Prop} (h : P77a b0 Φ) : CtP Tryz.prog 77 [.sl false b0, .fn (.func 78) [] []] Φ :=
  ctP_by h 1000 [(1002, .call [.pv .bool])] mixed Tryz.func77 rfl (by kernel_rfl) (by kernel_rfl)

/-- rel.Right -/
def P23 (a0 : Rel) (a1 : Int) (Φ : List RV → Prop) : Prop :=
 Ln (List.map eItem a0.keep.l) (Ln (List.map eWin a0.win) (Ln (List.map I a0.top) (Ln (List.map eAsk a0.ask) (Ln (List.map lI a0.have_) (Ln (List.map I a0.lost) (∃ x1, Cl 69 [I a1, I 2, I 64] [.pv (B x1)] ∧
 Fk (!x1)
 (Φ [.pv (B false)])
 (∃ x2, Cl 69 [I a0.me, I 0, I (w64 (a1 - 1))] [.pv (B x2)] ∧
 Fk (!x2)
 (Φ [.pv (B false)])
 (Fk (((List.map eWin a0.win).length : Int) != a1)
 (Φ [.pv (B false)])
 (Fk (((List.map I a0.top).length : Int) != a1)
 (Φ [.pv (B false)])
 (Fk (((List.map eAsk a0.ask).length : Int) != a1)
 (Φ [.pv (B false)])
 (Fk (((List.map lI a0.have_).length : Int) != a1)
 (Φ [.pv (B false)])
 (∃ x3, Cl 70 [.sl false (List.map lI a0.have_), .fn (.func 71) [] [.ip [I a1] 0]] [.pv (B x3)] ∧
 ∃ x4, Cl 74 [.sl false (List.map eAsk a0.ask), .fn (.func 75) [] []] [.pv (B x4)] ∧
 SmA (.bp 65552 0) ∧ SmA (.pv (.sl false (List.map I a0.lost))) ∧ SmA (.pv (I ((List.map I a0.lost).length : Int))) ∧ SmA (.pv (I a0.me)) ∧ SmA (.pv (I a0.now)) ∧ SmA (.pv (I a0.keep.next)) ∧ SmA (.pv (.sl false (List.map eItem a0.keep.l))) ∧ SmA (.pv (.sl false (List.map eWin a0.win))) ∧ SmA (.pv (.sl false (List.map I a0.top))) ∧ SmA (.pv (.sl false (List.map eAsk a0.ask))) ∧ SmA (.pv (.sl false (List.map lI a0.have_))) ∧ SmA (.pv (.sl false (List.map I a0.lost))) ∧ SmA (.pv (I a0.naks)) ∧ Lo (fun (L6 : Bool × Bool × Int × Int × Unit × Unit → Prop) (v5 : Bool × Bool × Int × Int × Unit × Unit) =>
 Fk (decide (v5.2.2.2.1 < ((List.map I a0.lost).length : Int)))
 (Ix I (List.map I a0.lost) v5.2.2.2.1 fun x7 =>
 ∃ x8, Cl 69 [I x7, I (w64 (v5.2.2.1 + 1)), I 4611686018427387904] [.pv (B x8)] ∧
 Fk (!x8)
 (Φ [.pv (B false)])
 (SmA (.bp 65552 0) ∧ SmA (.pv (.sl false (List.map I a0.lost))) ∧ SmA (.pv (I ((List.map I a0.lost).length : Int))) ∧ SmA (.pv (I a0.me)) ∧ SmA (.pv (I a0.now)) ∧ SmA (.pv (I a0.keep.next)) ∧ SmA (.pv (.sl false (List.map eItem a0.keep.l))) ∧ SmA (.pv (.sl false (List.map eWin a0.win))) ∧ SmA (.pv (.sl false (List.map I a0.top))) ∧ SmA (.pv (.sl false (List.map eAsk a0.ask))) ∧ SmA (.pv (.sl false (List.map lI a0.have_))) ∧ SmA (.pv (.sl false (List.map I a0.lost))) ∧ SmA (.pv (I a0.naks)) ∧ L6 (v5.1, v5.2.1, x7, w64 (v5.2.2.2.1 + 1), (), ())))
 (Fk v5.1
 (Fk v5.2.1
 (∃ x9, Cl 73 [I a0.now] [.pv (B x9)] ∧
 Fk x9
 (∃ x10, Cl 76 [eKeep a0.keep] [.pv (B x10)] ∧
 Fk x10
 (∃ x11, Cl 77 [.sl false (List.map eWin a0.win), .fn (.func 78) [] []] [.pv (B x11)] ∧
 Fk x11
 (∃ x12, Cl 72 [.sl false (List.map I a0.top), .fn (.func 73) [] []] [.pv (B x12)] ∧
 Fk x12
 (Fk (decide (((List.map I a0.lost).length : Int) ≤ 64))
 (∃ x13, Cl 69 [I a0.naks, I 0, I 1000] [.pv (B x13)] ∧
 Φ [.pv (B x13)])
 (Φ [.pv (B false)]))
 (Φ [.pv (B false)]))
 (Φ [.pv (B false)]))
 (Φ [.pv (B false)]))
 (Φ [.pv (B false)]))
 (Φ [.pv (B false)]))
 (Φ [.pv (B false)]))) (x3, x4, 0, 0, (), ())))))))))))))
theorem t23 (a0 : Rel) (a1 : Int) {Φ : List RV → Prop} (h : P23 a0 a1 Φ) : CtP Tryz.prog 23 [eRel a0, I a1] Φ :=
  ctP_by h 1000 [(1001, .call [.pv .bool]), (1003, .fork [(1018, .off), (1025, .off), (1032, .off), (1038, .off), (1011, .off)] []), (1008, .call [.pv .bool]), (1011, .fork [(1025, .off), (1032, .off), (1038, .off), (1018, .off)] []), (1018, .fork [(1032, .off), (1038, .off), (1025, .off)] []), (1025, .fork [(1038, .off), (1032, .off)] []), (1032, .fork [(1038, .off)] []), (1038, .fork [] []), (1997, .lens [2]), (3003, .call [.pv .bool]), (4002, .call [.pv .bool]), (7000, .fork [] []), (7999, .loop [.k 2 (.bp 65552 0), .c 5 .bool, .c 6 .bool, .c 7 (.int .i64), .k 57 (.pv (.sl false (List.map I a0.lost))), .k 58 (.pv (I ((List.map I a0.lost).length : Int))), .c 59 (.int .i64), .box 65552 true [.k (.pv (I a0.me)), .k (.pv (I a0.now)), .k (.pv (I a0.keep.next)), .k (.pv (.sl false (List.map eItem a0.keep.l))), .k (.pv (.sl false (List.map eWin a0.win))), .k (.pv (.sl false (List.map I a0.top))), .k (.pv (.sl false (List.map eAsk a0.ask))), .k (.pv (.sl false (List.map lI a0.have_))), .k (.pv (.sl false (List.map I a0.lost))), .k (.pv (I a0.naks))]]), (8000, .ix Int I), (9003, .call [.pv .bool]), (9004, .fork [] []), (13001, .fork [] [(13004, .off), (13009, .off), (13014, .off), (13019, .off), (13024, .off), (13030, .off)]), (13004, .fork [] [(13009, .off), (13014, .off), (13019, .off), (13024, .off), (13030, .off)]), (13007, .call [.pv .bool]), (13009, .fork [] [(13014, .off), (13019, .off), (13024, .off), (13030, .off)]), (13012, .call [.pv .bool]), (13014, .fork [] [(13019, .off), (13024, .off), (13030, .off)]), (13017, .call [.pv .bool]), (13019, .fork [] [(13024, .off), (13030, .off)]), (13022, .call [.pv .bool]), (13024, .fork [] [(13030, .off)]), (13030, .fork [] []), (13033, .call [.pv .bool])] mixed Tryz.func23 rfl (by kernel_rfl) (by kernel_rfl)

/-- slices.Equal[[]int,int] -/
def P80 (a0 : List PV) (a1 : List PV) (Φ : List RV → Prop) : Prop :=
 Ln a0 (Ln a1 (Fk ((a0.length : Int) != (a1.length : Int))
 (Φ [.pv (B false)])
 (SmA (.pv (.sl false a0)) ∧ SmA (.pv (.sl false a1)) ∧ SmA (.pv (I (a0.length : Int))) ∧ Lo (fun (L2 : Int × Unit → Prop) (v1 : Int × Unit) =>
 Fk (decide (v1.1 < (a0.length : Int)))
 (Ix I a0 v1.1 fun x3 =>
 Ix I a1 v1.1 fun x4 =>
 Fk (x3 != x4)
 (Φ [.pv (B false)])
 (SmA (.pv (.sl false a0)) ∧ SmA (.pv (.sl false a1)) ∧ SmA (.pv (I (a0.length : Int))) ∧ L2 (w64 (v1.1 + 1), ())))
 (Φ [.pv (B true)])) (0, ()))))
theorem t80 (a0 : List PV) (a1 : List PV) {Φ : List RV → Prop} (h : P80 a0 a1 Φ) : CtP Tryz.prog 80 [.sl false a0, .sl false a1] Φ :=
  ctP_by h 1000 [(1004, .fork [] []), (1997, .lens [0, 1]), (4000, .fork [] []), (4999, .loop [.k 0 (.pv (.sl false a0)), .k 1 (.pv (.sl false a1)), .k 12 (.pv (I (a0.length : Int))), .c 13 (.int .i64)]), (6002, .ix Int I), (6006, .ix Int I), (6008, .fork [] [])] mixed Tryz.func80 rfl (by kernel_rfl) (by kernel_rfl)

/-- bytes.Equal -/
def P130 (a0 : List PV) (a1 : List PV) (Φ : List RV → Prop) : Prop :=
 By a0 (fun x1 =>
 By a1 (fun x2 =>
 Φ [.pv (B ((⟨x1.toArray⟩ : ByteArray).toList == (⟨x2.toArray⟩ : ByteArray).toList))]))
theorem t130 (a0 : List PV) (a1 : List PV) {Φ : List RV → Prop} (h : P130 a0 a1 Φ) : CtP Tryz.prog 130 [.sl false a0, .sl false a1] Φ :=
  ctP_by h 1000 [(1001, .b2s), (1003, .b2s)] mixed Tryz.func130 rfl (by kernel_rfl) (by kernel_rfl)

/-- item.Same -/
def P119 (a0 : Item) (a1 : Item) (Φ : List RV → Prop) : Prop :=
 Fk (a0.kind == a1.kind)
 (Fk (a0.seq == a1.seq)
 (Fk (a0.epoch == a1.epoch)
 (Fk (a0.index == a1.index)
 (Fk (a0.total == a1.total)
 (Fk (a0.count == a1.count)
 (∃ x1, Cl 80 [.sl false (List.map I a0.l), .sl false (List.map I a1.l)] [.pv (B x1)] ∧
 Fk x1
 (∃ x2, Cl 130 [.sl false (List.map U8 a0.body), .sl false (List.map U8 a1.body)] [.pv (B x2)] ∧
 Φ [.pv (B x2)])
 (Φ [.pv (B false)]))
 (Φ [.pv (B false)]))
 (Φ [.pv (B false)]))
 (Φ [.pv (B false)]))
 (Φ [.pv (B false)]))
 (Φ [.pv (B false)]))
 (Φ [.pv (B false)])
theorem t119 (a0 : Item) (a1 : Item) {Φ : List RV → Prop} (h : P119 a0 a1 Φ) : CtP Tryz.prog 119 [eItem a0, eItem a1] Φ :=
  ctP_by h 1000 [(1005, .fork [] [(1012, .off), (1019, .off), (1026, .off), (1033, .off), (2001, .off), (2008, .off)]), (1012, .fork [] [(1019, .off), (1026, .off), (1033, .off), (2001, .off), (2008, .off)]), (1019, .fork [] [(1026, .off), (1033, .off), (2001, .off), (2008, .off)]), (1026, .fork [] [(1033, .off), (2001, .off), (2008, .off)]), (1033, .fork [] [(2001, .off), (2008, .off)]), (2001, .fork [] [(2008, .off)]), (2006, .call [.pv .bool]), (2008, .fork [] []), (2013, .call [.pv .bool])] mixed Tryz.func119 rfl (by kernel_rfl) (by kernel_rfl)

/-- slices.EqualFunc[[]api.Item,[]api.Item,api.Item,api.Item] -/
def P118a (b0 : List PV) (b1 : List PV) (Φ : List RV → Prop) : Prop :=
 Ln b0 (Ln b1 (Fk ((b0.length : Int) != (b1.length : Int))
 (Φ [.pv (B false)])
 (SmA (.pv (.sl false b1)) ∧ SmA (.pv (.fn (.func 119) [] [])) ∧ SmA (.pv (.sl false b0)) ∧ SmA (.pv (I (b0.length : Int))) ∧ Lo (fun (L2 : Int × Unit → Prop) (v1 : Int × Unit) =>
 Fk (decide (v1.1 < (b0.length : Int)))
 (Ix eItem b0 v1.1 fun x3 =>
 Ix eItem b1 v1.1 fun x4 =>
 ∃ x5, Cl 119 [eItem x3, eItem x4] [.pv (B x5)] ∧
 Fk (!x5)
 (Φ [.pv (B false)])
 (SmA (.pv (.sl false b1)) ∧ SmA (.pv (.fn (.func 119) [] [])) ∧ SmA (.pv (.sl false b0)) ∧ SmA (.pv (I (b0.length : Int))) ∧ L2 (w64 (v1.1 + 1), ())))
 (Φ [.pv (B true)])) (0, ()))))
theorem t118a (b0 : List PV) (b1 : List PV) {Φ : List RV → Prop} (h : P118a b0 b1 Φ) : CtP Tryz.prog 118 [.sl false b0, .sl false b1, .fn (.func 119) [] []] Φ :=
  ctP_by h 1000 [(1004, .fork [] []), (1997, .lens [0, 1]), (4000, .fork [] []), (4999, .loop [.k 1 (.pv (.sl false b1)), .k 2 (.pv (.fn (.func 119) [] [])), .k 15 (.pv (.sl false b0)), .k 16 (.pv (I (b0.length : Int))), .c 17 (.int .i64)]), (5001, .ix Item eItem), (6002, .ix Item eItem), (7003, .call [.pv .bool]), (7004, .fork [] [])] mixed Tryz.func118 rfl (by kernel_rfl) (by kernel_rfl)

/-- keep.Same -/
def P79 (a0 : Keep) (a1 : Keep) (Φ : List RV → Prop) : Prop :=
 Fk (a0.next == a1.next)
 (∃ x1, Cl 118 [.sl false (List.map eItem a0.l), .sl false (List.map eItem a1.l), .fn (.func 119) [] []] [.pv (B x1)] ∧
 Φ [.pv (B x1)])
 (Φ [.pv (B false)])
theorem t79 (a0 : Keep) (a1 : Keep) {Φ : List RV → Prop} (h : P79 a0 a1 Φ) : CtP Tryz.prog 79 [eKeep a0, eKeep a1] Φ :=
  ctP_by h 1000 [(1005, .fork [] []), (1010, .call [.pv .bool])] mixed Tryz.func79 rfl (by kernel_rfl) (by kernel_rfl)

/-- win.Same -/
def P82 (a0 : Win) (a1 : Win) (Φ : List RV → Prop) : Prop :=
 Fk (a0.next == a1.next)
 (∃ x1, Cl 118 [.sl false (List.map eItem a0.l), .sl false (List.map eItem a1.l), .fn (.func 119) [] []] [.pv (B x1)] ∧
 Φ [.pv (B x1)])
 (Φ [.pv (B false)])
theorem t82 (a0 : Win) (a1 : Win) {Φ : List RV → Prop} (h : P82 a0 a1 Φ) : CtP Tryz.prog 82 [eWin a0, eWin a1] Φ :=
  ctP_by h 1000 [(1005, .fork [] []), (1010, .call [.pv .bool])] mixed Tryz.func82 rfl (by kernel_rfl) (by kernel_rfl)

/-- slices.EqualFunc[[]api.Win,[]api.Win,api.Win,api.Win] -/
def P81a (b0 : List PV) (b1 : List PV) (Φ : List RV → Prop) : Prop :=
 Ln b0 (Ln b1 (Fk ((b0.length : Int) != (b1.length : Int))
 (Φ [.pv (B false)])
 (SmA (.pv (.sl false b1)) ∧ SmA (.pv (.fn (.func 82) [] [])) ∧ SmA (.pv (.sl false b0)) ∧ SmA (.pv (I (b0.length : Int))) ∧ Lo (fun (L2 : Int × Unit → Prop) (v1 : Int × Unit) =>
 Fk (decide (v1.1 < (b0.length : Int)))
 (Ix eWin b0 v1.1 fun x3 =>
 Ix eWin b1 v1.1 fun x4 =>
 ∃ x5, Cl 82 [eWin x3, eWin x4] [.pv (B x5)] ∧
 Fk (!x5)
 (Φ [.pv (B false)])
 (SmA (.pv (.sl false b1)) ∧ SmA (.pv (.fn (.func 82) [] [])) ∧ SmA (.pv (.sl false b0)) ∧ SmA (.pv (I (b0.length : Int))) ∧ L2 (w64 (v1.1 + 1), ())))
 (Φ [.pv (B true)])) (0, ()))))
theorem t81a (b0 : List PV) (b1 : List PV) {Φ : List RV → Prop} (h : P81a b0 b1 Φ) : CtP Tryz.prog 81 [.sl false b0, .sl false b1, .fn (.func 82) [] []] Φ :=
  ctP_by h 1000 [(1004, .fork [] []), (1997, .lens [0, 1]), (4000, .fork [] []), (4999, .loop [.k 1 (.pv (.sl false b1)), .k 2 (.pv (.fn (.func 82) [] [])), .k 15 (.pv (.sl false b0)), .k 16 (.pv (I (b0.length : Int))), .c 17 (.int .i64)]), (5001, .ix Win eWin), (6002, .ix Win eWin), (7003, .call [.pv .bool]), (7004, .fork [] [])] mixed Tryz.func81 rfl (by kernel_rfl) (by kernel_rfl)

/-- slices.Equal[[]api.Ask,api.Ask] -/
def P83 (a0 : List PV) (a1 : List PV) (Φ : List RV → Prop) : Prop :=
 Ln a0 (Ln a1 (Fk ((a0.length : Int) != (a1.length : Int))
 (Φ [.pv (B false)])
 (SmA (.pv (.sl false a0)) ∧ SmA (.pv (.sl false a1)) ∧ SmA (.pv (I (a0.length : Int))) ∧ Lo (fun (L2 : Int × Unit → Prop) (v1 : Int × Unit) =>
 Fk (decide (v1.1 < (a0.length : Int)))
 (Ix eAsk a0 v1.1 fun x3 =>
 Ix eAsk a1 v1.1 fun x4 =>
 Fk (!(((x3.due : Int) == x4.due) && true))
 (Φ [.pv (B false)])
 (SmA (.pv (.sl false a0)) ∧ SmA (.pv (.sl false a1)) ∧ SmA (.pv (I (a0.length : Int))) ∧ L2 (w64 (v1.1 + 1), ())))
 (Φ [.pv (B true)])) (0, ()))))
theorem t83 (a0 : List PV) (a1 : List PV) {Φ : List RV → Prop} (h : P83 a0 a1 Φ) : CtP Tryz.prog 83 [.sl false a0, .sl false a1] Φ :=
  ctP_by h 1000 [(1004, .fork [] []), (1997, .lens [0, 1]), (4000, .fork [] []), (4999, .loop [.k 0 (.pv (.sl false a0)), .k 1 (.pv (.sl false a1)), .k 12 (.pv (I (a0.length : Int))), .c 13 (.int .i64)]), (6002, .ix Ask eAsk), (6006, .ix Ask eAsk), (6008, .fork [] [])] mixed Tryz.func83 rfl (by kernel_rfl) (by kernel_rfl)

/-- slices.EqualFunc[[][]int,[][]int,[]int,[]int] -/
def P84a (b0 : List PV) (b1 : List PV) (Φ : List RV → Prop) : Prop :=
 Ln b0 (Ln b1 (Fk ((b0.length : Int) != (b1.length : Int))
 (Φ [.pv (B false)])
 (SmA (.pv (.sl false b1)) ∧ SmA (.pv (.fn (.func 80) [] [])) ∧ SmA (.pv (.sl false b0)) ∧ SmA (.pv (I (b0.length : Int))) ∧ Lo (fun (L2 : Int × Unit → Prop) (v1 : Int × Unit) =>
 Fk (decide (v1.1 < (b0.length : Int)))
 (Ix lI b0 v1.1 fun x3 =>
 Ix lI b1 v1.1 fun x4 =>
 ∃ x5, Cl 80 [.sl false (List.map I x3), .sl false (List.map I x4)] [.pv (B x5)] ∧
 Fk (!x5)
 (Φ [.pv (B false)])
 (SmA (.pv (.sl false b1)) ∧ SmA (.pv (.fn (.func 80) [] [])) ∧ SmA (.pv (.sl false b0)) ∧ SmA (.pv (I (b0.length : Int))) ∧ L2 (w64 (v1.1 + 1), ())))
 (Φ [.pv (B true)])) (0, ()))))
theorem t84a (b0 : List PV) (b1 : List PV) {Φ : List RV → Prop} (h : P84a b0 b1 Φ) : CtP Tryz.prog 84 [.sl false b0, .sl false b1, .fn (.func 80) [] []] Φ :=
  ctP_by h 1000 [(1004, .fork [] []), (1997, .lens [0, 1]), (4000, .fork [] []), (4999, .loop [.k 1 (.pv (.sl false b1)), .k 2 (.pv (.fn (.func 80) [] [])), .k 15 (.pv (.sl false b0)), .k 16 (.pv (I (b0.length : Int))), .c 17 (.int .i64)]), (5001, .ix (List Int) lI), (6002, .ix (List Int) lI), (7003, .call [.pv .bool]), (7004, .fork [] [])] mixed Tryz.func84 rfl (by kernel_rfl) (by kernel_rfl)

/-- rel.Same -/
def P24 (a0 : Rel) (a1 : Rel) (Φ : List RV → Prop) : Prop :=
 Fk (a0.me == a1.me)
 (Fk (a0.now == a1.now)
 (∃ x1, Cl 79 [eKeep a0.keep, eKeep a1.keep] [.pv (B x1)] ∧
 Fk x1
 (∃ x2, Cl 80 [.sl false (List.map I a0.lost), .sl false (List.map I a1.lost)] [.pv (B x2)] ∧
 Fk x2
 (∃ x3, Cl 81 [.sl false (List.map eWin a0.win), .sl false (List.map eWin a1.win), .fn (.func 82) [] []] [.pv (B x3)] ∧
 Fk x3
 (∃ x4, Cl 80 [.sl false (List.map I a0.top), .sl false (List.map I a1.top)] [.pv (B x4)] ∧
 Fk x4
 (∃ x5, Cl 83 [.sl false (List.map eAsk a0.ask), .sl false (List.map eAsk a1.ask)] [.pv (B x5)] ∧
 Fk (a0.naks == a1.naks)
 (Fk x5
 (∃ x6, Cl 84 [.sl false (List.map lI a0.have_), .sl false (List.map lI a1.have_), .fn (.func 80) [] []] [.pv (B x6)] ∧
 Φ [.pv (B x6)])
 (Φ [.pv (B false)]))
 (Φ [.pv (B false)]))
 (Fk (a0.naks == a1.naks)
 (Φ [.pv (B false)])
 (Φ [.pv (B false)])))
 (Fk (a0.naks == a1.naks)
 (Φ [.pv (B false)])
 (Φ [.pv (B false)])))
 (∃ x7, Cl 81 [.sl false (List.map eWin a0.win), .sl false (List.map eWin a1.win), .fn (.func 82) [] []] [.pv (B x7)] ∧
 Fk x7
 (∃ x8, Cl 80 [.sl false (List.map I a0.top), .sl false (List.map I a1.top)] [.pv (B x8)] ∧
 Fk x8
 (∃ x9, Cl 83 [.sl false (List.map eAsk a0.ask), .sl false (List.map eAsk a1.ask)] [.pv (B x9)] ∧
 Φ [.pv (B false)])
 (Φ [.pv (B false)]))
 (Φ [.pv (B false)])))
 (∃ x10, Cl 81 [.sl false (List.map eWin a0.win), .sl false (List.map eWin a1.win), .fn (.func 82) [] []] [.pv (B x10)] ∧
 Fk x10
 (∃ x11, Cl 80 [.sl false (List.map I a0.top), .sl false (List.map I a1.top)] [.pv (B x11)] ∧
 Fk x11
 (∃ x12, Cl 83 [.sl false (List.map eAsk a0.ask), .sl false (List.map eAsk a1.ask)] [.pv (B x12)] ∧
 Φ [.pv (B false)])
 (Φ [.pv (B false)]))
 (Φ [.pv (B false)])))
 (∃ x13, Cl 81 [.sl false (List.map eWin a0.win), .sl false (List.map eWin a1.win), .fn (.func 82) [] []] [.pv (B x13)] ∧
 Fk x13
 (∃ x14, Cl 80 [.sl false (List.map I a0.top), .sl false (List.map I a1.top)] [.pv (B x14)] ∧
 Fk x14
 (∃ x15, Cl 83 [.sl false (List.map eAsk a0.ask), .sl false (List.map eAsk a1.ask)] [.pv (B x15)] ∧
 Φ [.pv (B false)])
 (Φ [.pv (B false)]))
 (Φ [.pv (B false)])))
 (∃ x16, Cl 81 [.sl false (List.map eWin a0.win), .sl false (List.map eWin a1.win), .fn (.func 82) [] []] [.pv (B x16)] ∧
 Fk x16
 (∃ x17, Cl 80 [.sl false (List.map I a0.top), .sl false (List.map I a1.top)] [.pv (B x17)] ∧
 Fk x17
 (∃ x18, Cl 83 [.sl false (List.map eAsk a0.ask), .sl false (List.map eAsk a1.ask)] [.pv (B x18)] ∧
 Φ [.pv (B false)])
 (Φ [.pv (B false)]))
 (Φ [.pv (B false)]))
theorem t24 (a0 : Rel) (a1 : Rel) {Φ : List RV → Prop} (h : P24 a0 a1 Φ) : CtP Tryz.prog 24 [eRel a0, eRel a1] Φ :=
  ctP_by h 1000 [(1005, .fork [] [(1012, .off), (1019, .off), (1026, .off), (3001, .off), (3004, .off), (2012, .fork [] []), (2005, .fork [] [(2012, .off)])]), (1012, .fork [] [(1019, .off), (1026, .off), (3001, .off), (3004, .off), (2012, .fork [] []), (2005, .fork [] [(2012, .off)])]), (1017, .call [.pv .bool]), (1019, .fork [] [(1026, .off), (3001, .off), (3004, .off), (2012, .fork [] []), (2005, .fork [] [(2012, .off)])]), (1024, .call [.pv .bool]), (1026, .fork [] [(3001, .off), (3004, .off), (2012, .fork [] []), (2005, .fork [] [(2012, .off)])]), (2004, .call [.pv .bool]), (2005, .fork [] [(2012, .off), (3004, .off), (3001, .fork [] [])]), (2010, .call [.pv .bool]), (2012, .fork [] [(3004, .off), (3001, .fork [] [])]), (2017, .call [.pv .bool]), (3001, .fork [] [(3004, .off)]), (3004, .fork [] []), (3009, .call [.pv .bool])] mixed Tryz.func24 rfl (by kernel_rfl) (by kernel_rfl)

/-- precentorlaw20.shown -/
def P5  (Φ : List RV → Prop) : Prop :=
 ∃ x1, Cl 19 [I 0, I 2] [.pv (eRel x1)] ∧
 ∃ x2 x3 x4, Cl 20 [eRel x1, .agg [I 3, I 0, I 0, I 0, I 0, I 0, .sl true [], .sl true []], I 8, I 0] [.pv (eRel x2), .pv (ePacket x3), .pv (I x4)] ∧
 ∃ x5, Cl 19 [I 1, I 2] [.pv (eRel x5)] ∧
 ∃ x6 x7, Cl 11 [eRel x5, ePacket x3, .sl false [I 0, I 0], I 8, I 3] [.pv (eRel x6), .pv (B x7)] ∧
 ∃ x8 x9, Cl 21 [eRel x6, I 0] [.pv (eItem x8), .pv (B x9)] ∧
 ∃ x10 x11, Cl 22 [eRel x6, I 0] [.pv (eRel x10), .pv (B x11)] ∧
 ∃ x12 x13, Cl 21 [eRel x10, I 0] [.pv (eItem x12), .pv (B x13)] ∧
 ∃ x14 x15, Cl 11 [eRel x2, ePacket x3, .sl false [I 0, I 0], I 8, I 3] [.pv (eRel x14), .pv (B x15)] ∧
 ∃ x16 x17, Cl 13 [eRel x2, .sl false [I 0, I 0], I 3, I 1] [.pv (eRel x16), .pv (.sl false (List.map ePacket x17))] ∧
 ∃ x18, Cl 16 [eRel x2, .sl false [I 1, I 0]] [.pv (eRel x18)] ∧
 Ln (List.map ePacket x17) (Ln (List.map eItem x18.keep.l) (Ln (List.map eWin x18.win) (Ln (List.map I x18.top) (Ln (List.map eAsk x18.ask) (Ln (List.map lI x18.have_) (Ln (List.map I x18.lost) (Fk (x4 == 0)
 (Fk (x3.kind == 1)
 (Fk (x3.item.seq == 1)
 (Fk x7
 (Fk x9
 (Fk (x8.seq == 1)
 (Fk x11
 (Fk (!x13)
 (Fk (!x15)
 (Fk (x16.now == 1)
 (Fk (((List.map ePacket x17).length : Int) == 1)
 (Ix ePacket (List.map ePacket x17) 0 fun x19 =>
 Fk (x19.kind == 4)
 (Ix ePacket (List.map ePacket x17) 0 fun x20 =>
 Fk (x20.top == 1)
 (Fk (((List.map eItem x18.keep.l).length : Int) == 1)
 (∃ x21, Cl 23 [eRel x2, I 2] [.pv (B x21)] ∧
 Fk x21
 (∃ x22, Cl 23 [eRel x2, I 3] [.pv (B x22)] ∧
 Fk (!x22)
 (∃ x23, Cl 24 [eRel x2, eRel x2] [.pv (B x23)] ∧
 Fk x23
 (∃ x24, Cl 24 [eRel x2, eRel x6] [.pv (B x24)] ∧
 Φ [.pv (B (!x24))])
 (Φ [.pv (B false)]))
 (Φ [.pv (B false)]))
 (Φ [.pv (B false)]))
 (Φ [.pv (B false)]))
 (Φ [.pv (B false)]))
 (Φ [.pv (B false)]))
 (Φ [.pv (B false)]))
 (Φ [.pv (B false)]))
 (Φ [.pv (B false)]))
 (Φ [.pv (B false)]))
 (Φ [.pv (B false)]))
 (Φ [.pv (B false)]))
 (Φ [.pv (B false)]))
 (Φ [.pv (B false)]))
 (Φ [.pv (B false)]))
 (Φ [.pv (B false)]))
 (Φ [.pv (B false)]))))))))
theorem t5  {Φ : List RV → Prop} (h : P5  Φ) : CtP Tryz.prog 5 [] Φ :=
  ctP_by h 1000 [(1000, .call [.pv (.ty Rel eRel)]), (1002, .call [.pv (.ty Rel eRel), .pv (.ty Packet ePacket), .pv (.int .i64)]), (2000, .call [.pv (.ty Rel eRel)]), (2003, .call [.pv (.ty Rel eRel), .pv .bool]), (3001, .call [.pv (.ty Item eItem), .pv .bool]), (4001, .call [.pv (.ty Rel eRel), .pv .bool]), (5001, .call [.pv (.ty Item eItem), .pv .bool]), (6003, .call [.pv (.ty Rel eRel), .pv .bool]), (7002, .call [.pv (.ty Rel eRel), .pv (.ty (List Packet) lPacket)]), (8002, .call [.pv (.ty Rel eRel)]), (9002, .fork [] [(9007, .off), (9013, .off), (9016, .off), (9019, .off), (9024, .off), (9027, .off), (9031, .off), (9035, .off), (9040, .off), (9045, .off), (9052, .off), (9059, .off), (9066, .off), (9070, .off), (9075, .off), (9080, .off)]), (9007, .fork [] [(9013, .off), (9016, .off), (9019, .off), (9024, .off), (9027, .off), (9031, .off), (9035, .off), (9040, .off), (9045, .off), (9052, .off), (9059, .off), (9066, .off), (9070, .off), (9075, .off), (9080, .off)]), (9013, .fork [] [(9016, .off), (9019, .off), (9024, .off), (9027, .off), (9031, .off), (9035, .off), (9040, .off), (9045, .off), (9052, .off), (9059, .off), (9066, .off), (9070, .off), (9075, .off), (9080, .off)]), (9016, .fork [] [(9019, .off), (9024, .off), (9027, .off), (9031, .off), (9035, .off), (9040, .off), (9045, .off), (9052, .off), (9059, .off), (9066, .off), (9070, .off), (9075, .off), (9080, .off)]), (9019, .fork [] [(9024, .off), (9027, .off), (9031, .off), (9035, .off), (9040, .off), (9045, .off), (9052, .off), (9059, .off), (9066, .off), (9070, .off), (9075, .off), (9080, .off)]), (9024, .fork [] [(9027, .off), (9031, .off), (9035, .off), (9040, .off), (9045, .off), (9052, .off), (9059, .off), (9066, .off), (9070, .off), (9075, .off), (9080, .off)]), (9027, .fork [] [(9031, .off), (9035, .off), (9040, .off), (9045, .off), (9052, .off), (9059, .off), (9066, .off), (9070, .off), (9075, .off), (9080, .off)]), (9031, .fork [] [(9035, .off), (9040, .off), (9045, .off), (9052, .off), (9059, .off), (9066, .off), (9070, .off), (9075, .off), (9080, .off)]), (9035, .fork [] [(9040, .off), (9045, .off), (9052, .off), (9059, .off), (9066, .off), (9070, .off), (9075, .off), (9080, .off)]), (9040, .fork [] [(9045, .off), (9052, .off), (9059, .off), (9066, .off), (9070, .off), (9075, .off), (9080, .off)]), (9045, .fork [] [(9052, .off), (9059, .off), (9066, .off), (9070, .off), (9075, .off), (9080, .off)]), (9047, .ix Packet ePacket), (9052, .fork [] [(9059, .off), (9066, .off), (9070, .off), (9075, .off), (9080, .off)]), (9054, .ix Packet ePacket), (9059, .fork [] [(9066, .off), (9070, .off), (9075, .off), (9080, .off)]), (9066, .fork [] [(9070, .off), (9075, .off), (9080, .off)]), (9068, .call [.pv .bool]), (9070, .fork [] [(9075, .off), (9080, .off)]), (9072, .call [.pv .bool]), (9075, .fork [] [(9080, .off)]), (9078, .call [.pv .bool]), (9080, .fork [] []), (9083, .call [.pv .bool]), (9997, .lens [15, 16])] mixed Tryz.func5 rfl (by kernel_rfl) (by kernel_rfl)

/-- precentorref03.Few -/
def P29 (a0 : Item) (Φ : List RV → Prop) : Prop :=
 Ln (List.map I a0.l) (Ln (List.map U8 a0.body) (Fk (decide (((List.map I a0.l).length : Int) ≤ 80))
 (Φ [.pv (B (decide (((List.map U8 a0.body).length : Int) ≤ 1100)))])
 (Φ [.pv (B false)])))
theorem t29 (a0 : Item) {Φ : List RV → Prop} (h : P29 a0 Φ) : CtP Tryz.prog 29 [eItem a0] Φ :=
  ctP_by h 1000 [(1004, .fork [] []), (1997, .lens [1])] mixed Tryz.func29 rfl (by kernel_rfl) (by kernel_rfl)

/-- precentorref08.Few -/
def P25 (a0 : List PV) (Φ : List RV → Prop) : Prop :=
 Ln a0 (Fk (decide (80 < (a0.length : Int)))
 (Φ [.pv (B false)])
 (SmA (.pv (.sl false a0)) ∧ Lo (fun (L2 : Int × Unit → Prop) (v1 : Int × Unit) =>
 Fk (decide (v1.1 < (a0.length : Int)))
 (Ix eItem a0 v1.1 fun x3 =>
 ∃ x4, Cl 29 [eItem x3] [.pv (B x4)] ∧
 Fk (!x4)
 (Φ [.pv (B false)])
 (SmA (.pv (.sl false a0)) ∧ L2 (w64 (v1.1 + 1), ())))
 (Φ [.pv (B true)])) (0, ())))
theorem t25 (a0 : List PV) {Φ : List RV → Prop} (h : P25 a0 Φ) : CtP Tryz.prog 25 [.sl false a0] Φ :=
  ctP_by h 1000 [(1002, .fork [] []), (1997, .lens [0]), (4003, .fork [] []), (4999, .loop [.k 0 (.pv (.sl false a0)), .c 3 (.int .i64)]), (6002, .ix Item eItem), (6004, .call [.pv .bool]), (7001, .fork [] [])] mixed Tryz.func25 rfl (by kernel_rfl) (by kernel_rfl)

/-- precentorref20.Few -/
def P6 (a0 : Rel) (Φ : List RV → Prop) : Prop :=
 ∃ x1, Cl 25 [.sl false (List.map eItem a0.keep.l)] [.pv (B x1)] ∧
 Ln (List.map eItem a0.keep.l) (Ln (List.map eWin a0.win) (Ln (List.map I a0.top) (Ln (List.map eAsk a0.ask) (Ln (List.map lI a0.have_) (Ln (List.map I a0.lost) (Fk (!x1)
 (Φ [.pv (B false)])
 (Fk (decide (12 < ((List.map eWin a0.win).length : Int)))
 (Φ [.pv (B false)])
 (Fk (decide (12 < ((List.map I a0.top).length : Int)))
 (Φ [.pv (B false)])
 (Fk (decide (12 < ((List.map eAsk a0.ask).length : Int)))
 (Φ [.pv (B false)])
 (Fk (decide (12 < ((List.map lI a0.have_).length : Int)))
 (Φ [.pv (B false)])
 (Fk (decide (80 < ((List.map I a0.lost).length : Int)))
 (Φ [.pv (B false)])
 (SmA (.bp 65544 0) ∧ SmA (.pv (I a0.me)) ∧ SmA (.pv (I a0.now)) ∧ SmA (.pv (I a0.keep.next)) ∧ SmA (.pv (.sl false (List.map eItem a0.keep.l))) ∧ SmA (.pv (.sl false (List.map eWin a0.win))) ∧ SmA (.pv (.sl false (List.map I a0.top))) ∧ SmA (.pv (.sl false (List.map eAsk a0.ask))) ∧ SmA (.pv (.sl false (List.map lI a0.have_))) ∧ SmA (.pv (.sl false (List.map I a0.lost))) ∧ SmA (.pv (I a0.naks)) ∧ Lo (fun (L3 : Int × Unit × Unit → Prop) (v2 : Int × Unit × Unit) =>
 Fk (decide (v2.1 < ((List.map eWin a0.win).length : Int)))
 (Ix eWin (List.map eWin a0.win) v2.1 fun x4 =>
 ∃ x5, Cl 25 [.sl false (List.map eItem x4.l)] [.pv (B x5)] ∧
 Fk (!x5)
 (Φ [.pv (B false)])
 (SmA (.bp 65544 0) ∧ SmA (.pv (I a0.me)) ∧ SmA (.pv (I a0.now)) ∧ SmA (.pv (I a0.keep.next)) ∧ SmA (.pv (.sl false (List.map eItem a0.keep.l))) ∧ SmA (.pv (.sl false (List.map eWin a0.win))) ∧ SmA (.pv (.sl false (List.map I a0.top))) ∧ SmA (.pv (.sl false (List.map eAsk a0.ask))) ∧ SmA (.pv (.sl false (List.map lI a0.have_))) ∧ SmA (.pv (.sl false (List.map I a0.lost))) ∧ SmA (.pv (I a0.naks)) ∧ L3 (w64 (v2.1 + 1), (), ())))
 (SmA (.bp 65544 0) ∧ SmA (.pv (I a0.me)) ∧ SmA (.pv (I a0.now)) ∧ SmA (.pv (I a0.keep.next)) ∧ SmA (.pv (.sl false (List.map eItem a0.keep.l))) ∧ SmA (.pv (.sl false (List.map eWin a0.win))) ∧ SmA (.pv (.sl false (List.map I a0.top))) ∧ SmA (.pv (.sl false (List.map eAsk a0.ask))) ∧ SmA (.pv (.sl false (List.map lI a0.have_))) ∧ SmA (.pv (.sl false (List.map I a0.lost))) ∧ SmA (.pv (I a0.naks)) ∧ Lo (fun (L7 : Int × Unit × Unit → Prop) (v6 : Int × Unit × Unit) =>
 Fk (decide (v6.1 < ((List.map lI a0.have_).length : Int)))
 (Ix lI (List.map lI a0.have_) v6.1 fun x8 =>
 Fk (decide (12 < ((List.map I x8).length : Int)))
 (Φ [.pv (B false)])
 (SmA (.bp 65544 0) ∧ SmA (.pv (I a0.me)) ∧ SmA (.pv (I a0.now)) ∧ SmA (.pv (I a0.keep.next)) ∧ SmA (.pv (.sl false (List.map eItem a0.keep.l))) ∧ SmA (.pv (.sl false (List.map eWin a0.win))) ∧ SmA (.pv (.sl false (List.map I a0.top))) ∧ SmA (.pv (.sl false (List.map eAsk a0.ask))) ∧ SmA (.pv (.sl false (List.map lI a0.have_))) ∧ SmA (.pv (.sl false (List.map I a0.lost))) ∧ SmA (.pv (I a0.naks)) ∧ L7 (w64 (v6.1 + 1), (), ())))
 (Φ [.pv (B true)])) (0, (), ()))) (0, (), ())))))))))))))
theorem t6 (a0 : Rel) {Φ : List RV → Prop} (h : P6 a0 Φ) : CtP Tryz.prog 6 [eRel a0] Φ :=
  ctP_by h 1000 [(1003, .call [.pv .bool]), (2002, .fork [(2014, .off), (2020, .off), (2026, .off), (2031, .off), (2008, .off)] []), (2008, .fork [(2020, .off), (2026, .off), (2031, .off), (2014, .off)] []), (2014, .fork [(2026, .off), (2031, .off), (2020, .off)] []), (2020, .fork [(2031, .off), (2026, .off)] []), (2026, .fork [(2031, .off)] []), (2031, .fork [] []), (2997, .lens [1]), (5004, .fork [] []), (5999, .loop [.k 1 (.bp 65544 0), .c 4 (.int .i64), .box 65544 true [.k (.pv (I a0.me)), .k (.pv (I a0.now)), .k (.pv (I a0.keep.next)), .k (.pv (.sl false (List.map eItem a0.keep.l))), .k (.pv (.sl false (List.map eWin a0.win))), .k (.pv (.sl false (List.map I a0.top))), .k (.pv (.sl false (List.map eAsk a0.ask))), .k (.pv (.sl false (List.map lI a0.have_))), .k (.pv (.sl false (List.map I a0.lost))), .k (.pv (I a0.naks))]]), (7003, .ix Win eWin), (7006, .call [.pv .bool]), (8001, .fork [] []), (11004, .fork [] []), (11999, .loop [.k 1 (.bp 65544 0), .c 6 (.int .i64), .box 65544 true [.k (.pv (I a0.me)), .k (.pv (I a0.now)), .k (.pv (I a0.keep.next)), .k (.pv (.sl false (List.map eItem a0.keep.l))), .k (.pv (.sl false (List.map eWin a0.win))), .k (.pv (.sl false (List.map I a0.top))), .k (.pv (.sl false (List.map eAsk a0.ask))), .k (.pv (.sl false (List.map lI a0.have_))), .k (.pv (.sl false (List.map I a0.lost))), .k (.pv (I a0.naks))]]), (13003, .ix (List Int) lI), (13006, .fork [] [])] mixed Tryz.func6 rfl (by kernel_rfl) (by kernel_rfl)

/-- precentorref03.in -/
def P85 (a0 : List PV) (a1 : Int) (Φ : List RV → Prop) : Prop :=
 SmA (.pv (.sl false a0)) ∧ SmA (.pv (I a1)) ∧ Lo (fun (L2 : Int × Unit → Prop) (v1 : Int × Unit) =>
 Ln a0 (Fk (decide (v1.1 < (a0.length : Int)))
 (Ix I a0 v1.1 fun x3 =>
 Fk (decide (x3 < 0))
 (Φ [.pv (B false)])
 (Ix I a0 v1.1 fun x4 =>
 Fk (decide (a1 < x4))
 (Φ [.pv (B false)])
 (SmA (.pv (.sl false a0)) ∧ SmA (.pv (I a1)) ∧ L2 (w64 (v1.1 + 1), ()))))
 (Φ [.pv (B true)]))) (0, ())
theorem t85 (a0 : List PV) (a1 : Int) {Φ : List RV → Prop} (h : P85 a0 a1 Φ) : CtP Tryz.prog 85 [.sl false a0, I a1] Φ :=
  ctP_by h 1000 [(2003, .fork [] []), (2997, .lens [0]), (2999, .loop [.k 0 (.pv (.sl false a0)), .k 1 (.pv (I a1)), .c 5 (.int .i64)]), (4002, .ix Int I), (4005, .fork [(4012, .off)] []), (4008, .ix Int I), (4012, .fork [] [])] mixed Tryz.func85 rfl (by kernel_rfl) (by kernel_rfl)

/-- precentorref03.May -/
def P31 (a0 : Item) (Φ : List RV → Prop) : Prop :=
 Fk (decide (a0.seq < 1))
 (Φ [.pv (B false)])
 (Fk (decide (4611686018427387904 < a0.seq))
 (Φ [.pv (B false)])
 (Fk (decide (a0.epoch < 0))
 (Φ [.pv (B false)])
 (Fk (decide (4611686018427387904 < a0.epoch))
 (Φ [.pv (B false)])
 (Ln (List.map I a0.l) (Ln (List.map U8 a0.body) (Fk (((List.map I a0.l).length : Int) == 0)
 (Fk (a0.kind == 1)
 (Fk (decide (1 ≤ a0.total))
 (Fk (decide (a0.total ≤ 32))
 (Fk (decide (0 ≤ a0.index))
 (Fk (decide (a0.index < a0.total))
 (Fk (a0.count == 0)
 (Fk (((List.map I a0.l).length : Int) == 0)
 (Φ [.pv (B (decide (((List.map U8 a0.body).length : Int) ≤ 1024)))])
 (Φ [.pv (B false)]))
 (Φ [.pv (B false)]))
 (Φ [.pv (B false)]))
 (Φ [.pv (B false)]))
 (Φ [.pv (B false)]))
 (Φ [.pv (B false)]))
 (Fk (a0.kind == 2)
 (∃ x1, Cl 85 [.sl false (List.map I a0.l), I 63] [.pv (B x1)] ∧
 Fk x1
 (Fk (decide (0 ≤ a0.index))
 (Fk (decide (a0.index ≤ 1))
 (Fk (a0.total == 0)
 (Fk (a0.count == 0)
 (Fk (((List.map U8 a0.body).length : Int) == 0)
 (Fk (decide (1 ≤ ((List.map I a0.l).length : Int)))
 (Φ [.pv (B (decide (((List.map I a0.l).length : Int) ≤ 64)))])
 (Φ [.pv (B false)]))
 (Φ [.pv (B false)]))
 (Φ [.pv (B false)]))
 (Φ [.pv (B false)]))
 (Φ [.pv (B false)]))
 (Φ [.pv (B false)]))
 (Φ [.pv (B false)]))
 (Fk (a0.kind == 3)
 (Fk (((List.map U8 a0.body).length : Int) == 0)
 (Fk (a0.index == 0)
 (Fk (a0.total == 0)
 (Φ [.pv (B (a0.count == 0))])
 (Φ [.pv (B false)]))
 (Φ [.pv (B false)]))
 (Φ [.pv (B false)]))
 (Fk (a0.kind == 4)
 (Fk (((List.map U8 a0.body).length : Int) == 0)
 (Fk (decide (0 ≤ a0.index))
 (Fk (decide (a0.index ≤ 1))
 (Fk (a0.total == 0)
 (Φ [.pv (B (a0.count == 0))])
 (Φ [.pv (B false)]))
 (Φ [.pv (B false)]))
 (Φ [.pv (B false)]))
 (Φ [.pv (B false)]))
 (Fk (a0.kind == 5)
 (Fk (((List.map U8 a0.body).length : Int) == 0)
 (Fk (a0.index == 0)
 (Fk (a0.total == 0)
 (Fk (decide (0 ≤ a0.count))
 (Φ [.pv (B (decide (a0.count ≤ 4611686018427387904)))])
 (Φ [.pv (B false)]))
 (Φ [.pv (B false)]))
 (Φ [.pv (B false)]))
 (Φ [.pv (B false)]))
 (Fk (a0.kind == 6)
 (∃ x2, Cl 85 [.sl false (List.map I a0.l), I 4611686018427387904] [.pv (B x2)] ∧
 Fk x2
 (Fk (a0.index == 0)
 (Fk (a0.total == 0)
 (Fk (a0.count == 0)
 (Fk (((List.map U8 a0.body).length : Int) == 0)
 (Fk (decide (2 ≤ ((List.map I a0.l).length : Int)))
 (Φ [.pv (B (decide (((List.map I a0.l).length : Int) ≤ 64)))])
 (Φ [.pv (B false)]))
 (Φ [.pv (B false)]))
 (Φ [.pv (B false)]))
 (Φ [.pv (B false)]))
 (Φ [.pv (B false)]))
 (Φ [.pv (B false)]))
 (Φ [.pv (B false)])))))))
 (Fk (a0.kind == 1)
 (Fk (decide (1 ≤ a0.total))
 (Fk (decide (a0.total ≤ 32))
 (Fk (decide (0 ≤ a0.index))
 (Fk (decide (a0.index < a0.total))
 (Fk (a0.count == 0)
 (Fk (((List.map I a0.l).length : Int) == 0)
 (Φ [.pv (B (decide (((List.map U8 a0.body).length : Int) ≤ 1024)))])
 (Φ [.pv (B false)]))
 (Φ [.pv (B false)]))
 (Φ [.pv (B false)]))
 (Φ [.pv (B false)]))
 (Φ [.pv (B false)]))
 (Φ [.pv (B false)]))
 (Fk (a0.kind == 2)
 (∃ x3, Cl 85 [.sl false (List.map I a0.l), I 63] [.pv (B x3)] ∧
 Fk x3
 (Fk (decide (0 ≤ a0.index))
 (Fk (decide (a0.index ≤ 1))
 (Fk (a0.total == 0)
 (Fk (a0.count == 0)
 (Fk (((List.map U8 a0.body).length : Int) == 0)
 (Fk (decide (1 ≤ ((List.map I a0.l).length : Int)))
 (Φ [.pv (B (decide (((List.map I a0.l).length : Int) ≤ 64)))])
 (Φ [.pv (B false)]))
 (Φ [.pv (B false)]))
 (Φ [.pv (B false)]))
 (Φ [.pv (B false)]))
 (Φ [.pv (B false)]))
 (Φ [.pv (B false)]))
 (Φ [.pv (B false)]))
 (Fk (a0.kind == 3)
 (Φ [.pv (B false)])
 (Fk (a0.kind == 4)
 (Φ [.pv (B false)])
 (Fk (a0.kind == 5)
 (Φ [.pv (B false)])
 (Fk (a0.kind == 6)
 (∃ x4, Cl 85 [.sl false (List.map I a0.l), I 4611686018427387904] [.pv (B x4)] ∧
 Fk x4
 (Fk (a0.index == 0)
 (Fk (a0.total == 0)
 (Fk (a0.count == 0)
 (Fk (((List.map U8 a0.body).length : Int) == 0)
 (Fk (decide (2 ≤ ((List.map I a0.l).length : Int)))
 (Φ [.pv (B (decide (((List.map I a0.l).length : Int) ≤ 64)))])
 (Φ [.pv (B false)]))
 (Φ [.pv (B false)]))
 (Φ [.pv (B false)]))
 (Φ [.pv (B false)]))
 (Φ [.pv (B false)]))
 (Φ [.pv (B false)]))
 (Φ [.pv (B false)])))))))))))))
theorem t31 (a0 : Item) {Φ : List RV → Prop} (h : P31 a0 Φ) : CtP Tryz.prog 31 [eItem a0] Φ :=
  ctP_by h 1000 [(1003, .fork [(1013, .off), (1017, .off), (1008, .off)] []), (1008, .fork [(1017, .off), (1013, .off)] []), (1013, .fork [(1017, .off)] []), (1017, .fork [] []), (3004, .fork [] [(11001, .off), (11006, .off), (11011, .off), (13001, .off), (13006, .off), (13011, .off), (13016, .off), (15001, .off), (15006, .off), (15011, .off), (15016, .off)]), (3997, .lens [1]), (5001, .fork [] []), (6003, .fork [] [(6008, .off), (6013, .off), (6020, .off), (6025, .off), (6031, .off)]), (6008, .fork [] [(6013, .off), (6020, .off), (6025, .off), (6031, .off)]), (6013, .fork [] [(6020, .off), (6025, .off), (6031, .off)]), (6020, .fork [] [(6025, .off), (6031, .off)]), (6025, .fork [] [(6031, .off)]), (6031, .fork [] []), (7001, .fork [] []), (8002, .call [.pv .bool]), (9001, .fork [] [(9006, .off), (9011, .off), (9016, .off), (9021, .off), (9027, .off), (9033, .off)]), (9006, .fork [] [(9011, .off), (9016, .off), (9021, .off), (9027, .off), (9033, .off)]), (9011, .fork [] [(9016, .off), (9021, .off), (9027, .off), (9033, .off)]), (9016, .fork [] [(9021, .off), (9027, .off), (9033, .off)]), (9021, .fork [] [(9027, .off), (9033, .off)]), (9027, .fork [] [(9033, .off)]), (9033, .fork [] []), (10001, .fork [] []), (11001, .fork [] [(11006, .off), (11011, .off)]), (11006, .fork [] [(11011, .off)]), (11011, .fork [] []), (12001, .fork [] []), (13001, .fork [] [(13006, .off), (13011, .off), (13016, .off)]), (13006, .fork [] [(13011, .off), (13016, .off)]), (13011, .fork [] [(13016, .off)]), (13016, .fork [] []), (14001, .fork [] []), (15001, .fork [] [(15006, .off), (15011, .off), (15016, .off)]), (15006, .fork [] [(15011, .off), (15016, .off)]), (15011, .fork [] [(15016, .off)]), (15016, .fork [] []), (16001, .fork [] []), (17002, .call [.pv .bool]), (18001, .fork [] [(18006, .off), (18011, .off), (18016, .off), (18022, .off), (18028, .off)]), (18006, .fork [] [(18011, .off), (18016, .off), (18022, .off), (18028, .off)]), (18011, .fork [] [(18016, .off), (18022, .off), (18028, .off)]), (18016, .fork [] [(18022, .off), (18028, .off)]), (18022, .fork [] [(18028, .off)]), (18028, .fork [] [])] mixed Tryz.func31 rfl (by kernel_rfl) (by kernel_rfl)

/-- precentorref08.Right -/
def P26 (a0 : Keep) (Φ : List RV → Prop) : Prop :=
 Ln (List.map eItem a0.l) (Fk (decide (64 < ((List.map eItem a0.l).length : Int)))
 (Φ [.pv (B false)])
 (Fk (decide (a0.next < 1))
 (Φ [.pv (B false)])
 (Fk (decide (4611686018427387905 < a0.next))
 (Φ [.pv (B false)])
 (SmA (.bp 65544 0) ∧ SmA (.pv (I a0.next)) ∧ SmA (.pv (.sl false (List.map eItem a0.l))) ∧ Lo (fun (L2 : Int × Unit × Unit → Prop) (v1 : Int × Unit × Unit) =>
 Fk (decide (v1.1 < ((List.map eItem a0.l).length : Int)))
 (Ix eItem (List.map eItem a0.l) v1.1 fun x3 =>
 ∃ x4, Cl 31 [eItem x3] [.pv (B x4)] ∧
 Fk (!x4)
 (Φ [.pv (B false)])
 (Ix eItem (List.map eItem a0.l) v1.1 fun x5 =>
 Fk (x5.seq != (w64 (a0.next - (w64 (((List.map eItem a0.l).length : Int) - v1.1)))))
 (Φ [.pv (B false)])
 (SmA (.bp 65544 0) ∧ SmA (.pv (I a0.next)) ∧ SmA (.pv (.sl false (List.map eItem a0.l))) ∧ L2 (w64 (v1.1 + 1), (), ()))))
 (Φ [.pv (B true)])) (0, (), ())))))
theorem t26 (a0 : Keep) {Φ : List RV → Prop} (h : P26 a0 Φ) : CtP Tryz.prog 26 [eKeep a0] Φ :=
  ctP_by h 1000 [(1004, .fork [(1013, .off), (1009, .off)] []), (1009, .fork [(1013, .off)] []), (1013, .fork [] []), (1997, .lens [1]), (4004, .fork [] []), (4999, .loop [.k 1 (.bp 65544 0), .c 3 (.int .i64), .box 65544 true [.k (.pv (I a0.next)), .k (.pv (.sl false (List.map eItem a0.l)))]]), (6003, .ix Item eItem), (6005, .call [.pv .bool]), (7002, .fork [(7018, .off)] []), (7006, .ix Item eItem), (7018, .fork [] [])] mixed Tryz.func26 rfl (by kernel_rfl) (by kernel_rfl)

/-- precentorref20.count -/
def P27 (a0 : Int) (Φ : List RV → Prop) : Prop :=
 Fk (decide (0 ≤ a0))
 (Φ [.pv (B (decide (a0 ≤ 4611686018427387904)))])
 (Φ [.pv (B false)])
theorem t27 (a0 : Int) {Φ : List RV → Prop} (h : P27 a0 Φ) : CtP Tryz.prog 27 [I a0] Φ :=
  ctP_by h 1000 [(1002, .fork [] [])] mixed Tryz.func27 rfl (by kernel_rfl) (by kernel_rfl)

/-- precentorref09.Right -/
def P28 (a0 : Win) (Φ : List RV → Prop) : Prop :=
 Ln (List.map eItem a0.l) (Fk (decide (a0.next < 1))
 (Φ [.pv (B false)])
 (Fk (decide (4611686018427387905 < a0.next))
 (Φ [.pv (B false)])
 (Fk (decide (64 < ((List.map eItem a0.l).length : Int)))
 (Φ [.pv (B false)])
 (SmA (.bp 65544 0) ∧ SmA (.pv (I a0.next)) ∧ SmA (.pv (.sl false (List.map eItem a0.l))) ∧ Lo (fun (L2 : Int × Unit × Unit → Prop) (v1 : Int × Unit × Unit) =>
 Fk (decide (v1.1 < ((List.map eItem a0.l).length : Int)))
 (Jn (fun v3 : Int × Unit × Unit =>
 SmA (.bp 65544 0) ∧ SmA (.pv (I a0.next)) ∧ SmA (.pv (.sl false (List.map eItem a0.l))) ∧ L2 (w64 (v3.1 + 1), (), ())) (fun j4 =>
 (fun j4 : Int × Unit × Unit → Prop =>
 Ix eItem (List.map eItem a0.l) v1.1 fun x5 =>
 ∃ x6, Cl 31 [eItem x5] [.pv (B x6)] ∧
 Fk (!x6)
 (Φ [.pv (B false)])
 (Ix eItem (List.map eItem a0.l) v1.1 fun x7 =>
 Fk (decide (x7.seq < a0.next))
 (Φ [.pv (B false)])
 (Fk (decide (0 < v1.1))
 (Ix eItem (List.map eItem a0.l) v1.1 fun x8 =>
 Ix eItem (List.map eItem a0.l) (w64 (v1.1 - 1)) fun x9 =>
 Fk (decide (x8.seq ≤ x9.seq))
 (Φ [.pv (B false)])
 (j4 (v1.1, (), ())))
 (j4 (v1.1, (), ()))))) (fun v => SmA (.bp 65544 0) ∧ SmA (.pv (I a0.next)) ∧ SmA (.pv (.sl false (List.map eItem a0.l))) ∧ j4 v)))
 (Φ [.pv (B true)])) (0, (), ())))))
theorem t28 (a0 : Win) {Φ : List RV → Prop} (h : P28 a0 Φ) : CtP Tryz.prog 28 [eWin a0] Φ :=
  ctP_by h 1000 [(1003, .fork [(1013, .off), (1008, .off)] []), (1008, .fork [(1013, .off)] []), (1013, .fork [] []), (1997, .lens [1]), (4004, .fork [] []), (4999, .loop [.k 1 (.bp 65544 0), .c 3 (.int .i64), .box 65544 true [.k (.pv (I a0.next)), .k (.pv (.sl false (List.map eItem a0.l)))]]), (5998, .join [.k 1 (.bp 65544 0), .c 3 (.int .i64), .box 65544 true [.k (.pv (I a0.next)), .k (.pv (.sl false (List.map eItem a0.l)))]]), (6003, .ix Item eItem), (6005, .call [.pv .bool]), (7002, .fork [(7032, .off), (7013, .off)] []), (7006, .ix Item eItem), (7013, .fork [(7032, .off)] []), (7016, .fork [] [(7032, .off)]), (7020, .ix Item eItem), (7027, .ix Item eItem), (7032, .fork [] [])] mixed Tryz.func28 rfl (by kernel_rfl) (by kernel_rfl)

/-- precentorref20.Right -/
def P7 (a0 : Rel) (a1 : Int) (Φ : List RV → Prop) : Prop :=
 Ln (List.map eItem a0.keep.l) (Ln (List.map eWin a0.win) (Ln (List.map I a0.top) (Ln (List.map eAsk a0.ask) (Ln (List.map lI a0.have_) (Ln (List.map I a0.lost) (Fk (decide (a1 < 2))
 (Φ [.pv (B false)])
 (Fk (decide (64 < a1))
 (Φ [.pv (B false)])
 (Fk (decide (a0.me < 0))
 (Φ [.pv (B false)])
 (Fk (decide (a1 ≤ a0.me))
 (Φ [.pv (B false)])
 (Fk (((List.map eWin a0.win).length : Int) != a1)
 (Φ [.pv (B false)])
 (Fk (((List.map I a0.top).length : Int) != a1)
 (Φ [.pv (B false)])
 (Fk (((List.map eAsk a0.ask).length : Int) != a1)
 (Φ [.pv (B false)])
 (Fk (((List.map lI a0.have_).length : Int) != a1)
 (Φ [.pv (B false)])
 (Fk (decide (64 < ((List.map I a0.lost).length : Int)))
 (Φ [.pv (B false)])
 (Fk (decide (a0.naks < 0))
 (Φ [.pv (B false)])
 (Fk (decide (1000 < a0.naks))
 (Φ [.pv (B false)])
 (∃ x1, Cl 26 [eKeep a0.keep] [.pv (B x1)] ∧
 ∃ x2, Cl 27 [I a0.now] [.pv (B x2)] ∧
 Fk (!x1)
 (Φ [.pv (B false)])
 (Fk (!x2)
 (Φ [.pv (B false)])
 (SmA (.pv (I a1)) ∧ SmA (.bp 65552 0) ∧ SmA (.pv (I a0.me)) ∧ SmA (.pv (I a0.now)) ∧ SmA (.pv (I a0.keep.next)) ∧ SmA (.pv (.sl false (List.map eItem a0.keep.l))) ∧ SmA (.pv (.sl false (List.map eWin a0.win))) ∧ SmA (.pv (.sl false (List.map I a0.top))) ∧ SmA (.pv (.sl false (List.map eAsk a0.ask))) ∧ SmA (.pv (.sl false (List.map lI a0.have_))) ∧ SmA (.pv (.sl false (List.map I a0.lost))) ∧ SmA (.pv (I a0.naks)) ∧ Lo (fun (L4 : Int × Unit × Unit → Prop) (v3 : Int × Unit × Unit) =>
 Fk (decide (v3.1 < a1))
 (Ix eWin (List.map eWin a0.win) v3.1 fun x5 =>
 ∃ x6, Cl 28 [eWin x5] [.pv (B x6)] ∧
 Ix I (List.map I a0.top) v3.1 fun x7 =>
 ∃ x8, Cl 27 [I x7] [.pv (B x8)] ∧
 Fk (!x6)
 (Φ [.pv (B false)])
 (Fk (!x8)
 (Φ [.pv (B false)])
 (Ix eAsk (List.map eAsk a0.ask) v3.1 fun x9 =>
 Fk (decide (x9.due < 0))
 (Φ [.pv (B false)])
 (Ix eAsk (List.map eAsk a0.ask) v3.1 fun x10 =>
 Fk (decide (4611686018427388904 < x10.due))
 (Φ [.pv (B false)])
 (Ix lI (List.map lI a0.have_) v3.1 fun x11 =>
 Fk (((List.map I x11).length : Int) != a1)
 (Φ [.pv (B false)])
 (SmA (.pv (I a1)) ∧ SmA (.bp 65552 0) ∧ SmA (.pv (I a0.me)) ∧ SmA (.pv (I a0.now)) ∧ SmA (.pv (I a0.keep.next)) ∧ SmA (.pv (.sl false (List.map eItem a0.keep.l))) ∧ SmA (.pv (.sl false (List.map eWin a0.win))) ∧ SmA (.pv (.sl false (List.map I a0.top))) ∧ SmA (.pv (.sl false (List.map eAsk a0.ask))) ∧ SmA (.pv (.sl false (List.map lI a0.have_))) ∧ SmA (.pv (.sl false (List.map I a0.lost))) ∧ SmA (.pv (I a0.naks)) ∧ Lo (fun (L13 : Int × Int × Unit × Unit → Prop) (v12 : Int × Int × Unit × Unit) =>
 Fk (decide (v12.2.1 < a1))
 (Ix lI (List.map lI a0.have_) v12.1 fun x14 =>
 Ix I (List.map I x14) v12.2.1 fun x15 =>
 ∃ x16, Cl 27 [I x15] [.pv (B x16)] ∧
 Fk (!x16)
 (Φ [.pv (B false)])
 (SmA (.pv (I a1)) ∧ SmA (.bp 65552 0) ∧ SmA (.pv (I a0.me)) ∧ SmA (.pv (I a0.now)) ∧ SmA (.pv (I a0.keep.next)) ∧ SmA (.pv (.sl false (List.map eItem a0.keep.l))) ∧ SmA (.pv (.sl false (List.map eWin a0.win))) ∧ SmA (.pv (.sl false (List.map I a0.top))) ∧ SmA (.pv (.sl false (List.map eAsk a0.ask))) ∧ SmA (.pv (.sl false (List.map lI a0.have_))) ∧ SmA (.pv (.sl false (List.map I a0.lost))) ∧ SmA (.pv (I a0.naks)) ∧ L13 (v12.1, w64 (v12.2.1 + 1), (), ())))
 (SmA (.pv (I a1)) ∧ SmA (.bp 65552 0) ∧ SmA (.pv (I a0.me)) ∧ SmA (.pv (I a0.now)) ∧ SmA (.pv (I a0.keep.next)) ∧ SmA (.pv (.sl false (List.map eItem a0.keep.l))) ∧ SmA (.pv (.sl false (List.map eWin a0.win))) ∧ SmA (.pv (.sl false (List.map I a0.top))) ∧ SmA (.pv (.sl false (List.map eAsk a0.ask))) ∧ SmA (.pv (.sl false (List.map lI a0.have_))) ∧ SmA (.pv (.sl false (List.map I a0.lost))) ∧ SmA (.pv (I a0.naks)) ∧ L4 (w64 (v12.1 + 1), (), ()))) (v3.1, 0, (), ())))))))
 (SmA (.bp 65552 0) ∧ SmA (.pv (I a0.me)) ∧ SmA (.pv (I a0.now)) ∧ SmA (.pv (I a0.keep.next)) ∧ SmA (.pv (.sl false (List.map eItem a0.keep.l))) ∧ SmA (.pv (.sl false (List.map eWin a0.win))) ∧ SmA (.pv (.sl false (List.map I a0.top))) ∧ SmA (.pv (.sl false (List.map eAsk a0.ask))) ∧ SmA (.pv (.sl false (List.map lI a0.have_))) ∧ SmA (.pv (.sl false (List.map I a0.lost))) ∧ SmA (.pv (I a0.naks)) ∧ Lo (fun (L18 : Int × Unit × Unit → Prop) (v17 : Int × Unit × Unit) =>
 Fk (decide (v17.1 < ((List.map I a0.lost).length : Int)))
 (Jn (fun v19 : Int × Unit × Unit =>
 SmA (.bp 65552 0) ∧ SmA (.pv (I a0.me)) ∧ SmA (.pv (I a0.now)) ∧ SmA (.pv (I a0.keep.next)) ∧ SmA (.pv (.sl false (List.map eItem a0.keep.l))) ∧ SmA (.pv (.sl false (List.map eWin a0.win))) ∧ SmA (.pv (.sl false (List.map I a0.top))) ∧ SmA (.pv (.sl false (List.map eAsk a0.ask))) ∧ SmA (.pv (.sl false (List.map lI a0.have_))) ∧ SmA (.pv (.sl false (List.map I a0.lost))) ∧ SmA (.pv (I a0.naks)) ∧ L18 (w64 (v19.1 + 1), (), ())) (fun j20 =>
 (fun j20 : Int × Unit × Unit → Prop =>
 Ix I (List.map I a0.lost) v17.1 fun x21 =>
 ∃ x22, Cl 27 [I x21] [.pv (B x22)] ∧
 Fk (!x22)
 (Φ [.pv (B false)])
 (Ix I (List.map I a0.lost) v17.1 fun x23 =>
 Fk (decide (x23 < 1))
 (Φ [.pv (B false)])
 (Fk (decide (0 < v17.1))
 (Ix I (List.map I a0.lost) v17.1 fun x24 =>
 Ix I (List.map I a0.lost) (w64 (v17.1 - 1)) fun x25 =>
 Fk (decide (x24 ≤ x25))
 (Φ [.pv (B false)])
 (j20 (v17.1, (), ())))
 (j20 (v17.1, (), ()))))) (fun v => SmA (.bp 65552 0) ∧ SmA (.pv (I a0.me)) ∧ SmA (.pv (I a0.now)) ∧ SmA (.pv (I a0.keep.next)) ∧ SmA (.pv (.sl false (List.map eItem a0.keep.l))) ∧ SmA (.pv (.sl false (List.map eWin a0.win))) ∧ SmA (.pv (.sl false (List.map I a0.top))) ∧ SmA (.pv (.sl false (List.map eAsk a0.ask))) ∧ SmA (.pv (.sl false (List.map lI a0.have_))) ∧ SmA (.pv (.sl false (List.map I a0.lost))) ∧ SmA (.pv (I a0.naks)) ∧ j20 v)))
 (Φ [.pv (B true)])) (0, (), ()))) (0, (), ()))))))))))))))))))))
theorem t7 (a0 : Rel) (a1 : Int) {Φ : List RV → Prop} (h : P7 a0 a1 Φ) : CtP Tryz.prog 7 [eRel a0, I a1] Φ :=
  ctP_by h 1000 [(1002, .fork [(1011, .off), (1017, .off), (1024, .off), (1031, .off), (1038, .off), (1045, .off), (1051, .off), (1056, .off), (1060, .off), (1006, .off)] []), (1006, .fork [(1017, .off), (1024, .off), (1031, .off), (1038, .off), (1045, .off), (1051, .off), (1056, .off), (1060, .off), (1011, .off)] []), (1011, .fork [(1024, .off), (1031, .off), (1038, .off), (1045, .off), (1051, .off), (1056, .off), (1060, .off), (1017, .off)] []), (1017, .fork [(1031, .off), (1038, .off), (1045, .off), (1051, .off), (1056, .off), (1060, .off), (1024, .off)] []), (1024, .fork [(1038, .off), (1045, .off), (1051, .off), (1056, .off), (1060, .off), (1031, .off)] []), (1031, .fork [(1045, .off), (1051, .off), (1056, .off), (1060, .off), (1038, .off)] []), (1038, .fork [(1051, .off), (1056, .off), (1060, .off), (1045, .off)] []), (1045, .fork [(1056, .off), (1060, .off), (1051, .off)] []), (1051, .fork [(1060, .off), (1056, .off)] []), (1056, .fork [(1060, .off)] []), (1060, .fork [] []), (1997, .lens [2]), (3002, .call [.pv .bool]), (4002, .call [.pv .bool]), (5002, .fork [(5005, .off)] []), (5005, .fork [] []), (8002, .fork [] []), (8999, .loop [.k 1 (.pv (I a1)), .k 2 (.bp 65552 0), .c 7 (.int .i64), .box 65552 true [.k (.pv (I a0.me)), .k (.pv (I a0.now)), .k (.pv (I a0.keep.next)), .k (.pv (.sl false (List.map eItem a0.keep.l))), .k (.pv (.sl false (List.map eWin a0.win))), .k (.pv (.sl false (List.map I a0.top))), .k (.pv (.sl false (List.map eAsk a0.ask))), .k (.pv (.sl false (List.map lI a0.have_))), .k (.pv (.sl false (List.map I a0.lost))), .k (.pv (I a0.naks))]]), (10003, .ix Win eWin), (10005, .call [.pv .bool]), (11003, .ix Int I), (11005, .call [.pv .bool]), (12002, .fork [(12015, .off), (12024, .off), (12033, .off), (12006, .off)] []), (12006, .fork [(12024, .off), (12033, .off), (12015, .off)] []), (12010, .ix Ask eAsk), (12015, .fork [(12033, .off), (12024, .off)] []), (12019, .ix Ask eAsk), (12024, .fork [(12033, .off)] []), (12028, .ix (List Int) lI), (12033, .fork [] []), (15002, .fork [] []), (15999, .loop [.k 1 (.pv (I a1)), .k 2 (.bp 65552 0), .c 7 (.int .i64), .c 10 (.int .i64), .box 65552 true [.k (.pv (I a0.me)), .k (.pv (I a0.now)), .k (.pv (I a0.keep.next)), .k (.pv (.sl false (List.map eItem a0.keep.l))), .k (.pv (.sl false (List.map eWin a0.win))), .k (.pv (.sl false (List.map I a0.top))), .k (.pv (.sl false (List.map eAsk a0.ask))), .k (.pv (.sl false (List.map lI a0.have_))), .k (.pv (.sl false (List.map I a0.lost))), .k (.pv (I a0.naks))]]), (17003, .ix (List Int) lI), (17006, .ix Int I), (17008, .call [.pv .bool]), (18001, .fork [] []), (21004, .fork [] []), (21999, .loop [.k 2 (.bp 65552 0), .c 12 (.int .i64), .box 65552 true [.k (.pv (I a0.me)), .k (.pv (I a0.now)), .k (.pv (I a0.keep.next)), .k (.pv (.sl false (List.map eItem a0.keep.l))), .k (.pv (.sl false (List.map eWin a0.win))), .k (.pv (.sl false (List.map I a0.top))), .k (.pv (.sl false (List.map eAsk a0.ask))), .k (.pv (.sl false (List.map lI a0.have_))), .k (.pv (.sl false (List.map I a0.lost))), .k (.pv (I a0.naks))]]), (22998, .join [.k 2 (.bp 65552 0), .c 12 (.int .i64), .box 65552 true [.k (.pv (I a0.me)), .k (.pv (I a0.now)), .k (.pv (I a0.keep.next)), .k (.pv (.sl false (List.map eItem a0.keep.l))), .k (.pv (.sl false (List.map eWin a0.win))), .k (.pv (.sl false (List.map I a0.top))), .k (.pv (.sl false (List.map eAsk a0.ask))), .k (.pv (.sl false (List.map lI a0.have_))), .k (.pv (.sl false (List.map I a0.lost))), .k (.pv (I a0.naks))]]), (23003, .ix Int I), (23005, .call [.pv .bool]), (24002, .fork [(24027, .off), (24010, .off)] []), (24006, .ix Int I), (24010, .fork [(24027, .off)] []), (24013, .fork [] [(24027, .off)]), (24017, .ix Int I), (24023, .ix Int I), (24027, .fork [] [])] mixed Tryz.func7 rfl (by kernel_rfl) (by kernel_rfl)

/-- precentorref04.Few -/
def P8 (a0 : Packet) (Φ : List RV → Prop) : Prop :=
 ∃ x1, Cl 29 [eItem a0.item] [.pv (B x1)] ∧
 Ln (List.map I a0.item.l) (Ln (List.map U8 a0.item.body) (Ln (List.map I a0.l) (Fk x1
 (Φ [.pv (B (decide (((List.map I a0.l).length : Int) ≤ 80)))])
 (Φ [.pv (B false)]))))
theorem t8 (a0 : Packet) {Φ : List RV → Prop} (h : P8 a0 Φ) : CtP Tryz.prog 8 [ePacket a0] Φ :=
  ctP_by h 1000 [(1002, .call [.pv .bool]), (2001, .fork [] []), (2997, .lens [1])] mixed Tryz.func8 rfl (by kernel_rfl) (by kernel_rfl)

/-- precentorref02.Same -/
def P55 (a0 : List PV) (a1 : List PV) (Φ : List RV → Prop) : Prop :=
 Ln a0 (Ln a1 (Fk ((a0.length : Int) != (a1.length : Int))
 (Φ [.pv (B false)])
 (SmA (.pv (.sl false a0)) ∧ SmA (.pv (.sl false a1)) ∧ Lo (fun (L2 : Int × Unit → Prop) (v1 : Int × Unit) =>
 Fk (decide (v1.1 < (a0.length : Int)))
 (Ix I a0 v1.1 fun x3 =>
 Ix I a1 v1.1 fun x4 =>
 Fk (x3 != x4)
 (Φ [.pv (B false)])
 (SmA (.pv (.sl false a0)) ∧ SmA (.pv (.sl false a1)) ∧ L2 (w64 (v1.1 + 1), ())))
 (Φ [.pv (B true)])) (0, ()))))
theorem t55 (a0 : List PV) (a1 : List PV) {Φ : List RV → Prop} (h : P55 a0 a1 Φ) : CtP Tryz.prog 55 [.sl false a0, .sl false a1] Φ :=
  ctP_by h 1000 [(1004, .fork [] []), (1997, .lens [0, 1]), (4003, .fork [] []), (4999, .loop [.k 0 (.pv (.sl false a0)), .k 1 (.pv (.sl false a1)), .c 5 (.int .i64)]), (6002, .ix Int I), (6006, .ix Int I), (6008, .fork [] [])] mixed Tryz.func55 rfl (by kernel_rfl) (by kernel_rfl)

/-- precentorref03.Same -/
def P30 (a0 : Item) (a1 : Item) (Φ : List RV → Prop) : Prop :=
 ∃ x1, Cl 55 [.sl false (List.map I a0.l), .sl false (List.map I a1.l)] [.pv (B x1)] ∧
 Fk x1
 (Fk (a0.kind == a1.kind)
 (Fk (a0.seq == a1.seq)
 (Fk (a0.epoch == a1.epoch)
 (Fk (a0.index == a1.index)
 (Fk (a0.total == a1.total)
 (Fk (a0.count == a1.count)
 (By (List.map U8 a0.body) (fun x2 =>
 By (List.map U8 a1.body) (fun x3 =>
 Φ [.pv (B ((⟨x2.toArray⟩ : ByteArray).toList == (⟨x3.toArray⟩ : ByteArray).toList))])))
 (Φ [.pv (B false)]))
 (Φ [.pv (B false)]))
 (Φ [.pv (B false)]))
 (Φ [.pv (B false)]))
 (Φ [.pv (B false)]))
 (Φ [.pv (B false)]))
 (Φ [.pv (B false)])
theorem t30 (a0 : Item) (a1 : Item) {Φ : List RV → Prop} (h : P30 a0 a1 Φ) : CtP Tryz.prog 30 [eItem a0, eItem a1] Φ :=
  ctP_by h 1000 [(1004, .call [.pv .bool]), (2001, .fork [] [(2008, .off), (2015, .off), (2022, .off), (2029, .off), (2036, .off), (2043, .off)]), (2008, .fork [] [(2015, .off), (2022, .off), (2029, .off), (2036, .off), (2043, .off)]), (2015, .fork [] [(2022, .off), (2029, .off), (2036, .off), (2043, .off)]), (2022, .fork [] [(2029, .off), (2036, .off), (2043, .off)]), (2029, .fork [] [(2036, .off), (2043, .off)]), (2036, .fork [] [(2043, .off)]), (2043, .fork [] []), (2046, .b2s), (2049, .b2s)] mixed Tryz.func30 rfl (by kernel_rfl) (by kernel_rfl)

/-- precentorref04.May -/
def P9 (a0 : Packet) (Φ : List RV → Prop) : Prop :=
 ∃ x1, Cl 30 [eItem a0.item, .agg [I 0, I 0, I 0, I 0, I 0, I 0, .sl true [], .sl true []]] [.pv (B x1)] ∧
 ∃ x2, Cl 31 [eItem a0.item] [.pv (B x2)] ∧
 Fk (decide (a0.from_ < 0))
 (Φ [.pv (B false)])
 (Fk (decide (63 < a0.from_))
 (Φ [.pv (B false)])
 (Fk (a0.kind == 1)
 (Ln (List.map I a0.item.l) (Ln (List.map U8 a0.item.body) (Ln (List.map I a0.l) (Fk x2
 (Fk (a0.to_ == 0)
 (Fk (a0.lo == 0)
 (Fk (a0.many == 0)
 (Fk (a0.top == 0)
 (Φ [.pv (B (((List.map I a0.l).length : Int) == 0))])
 (Φ [.pv (B false)]))
 (Φ [.pv (B false)]))
 (Φ [.pv (B false)]))
 (Φ [.pv (B false)]))
 (Φ [.pv (B false)])))))
 (Fk (a0.kind == 2)
 (Ln (List.map I a0.item.l) (Ln (List.map U8 a0.item.body) (Ln (List.map I a0.l) (Fk x2
 (Fk (a0.to_ == 0)
 (Fk (a0.lo == 0)
 (Fk (a0.many == 0)
 (Fk (a0.top == 0)
 (Φ [.pv (B (((List.map I a0.l).length : Int) == 0))])
 (Φ [.pv (B false)]))
 (Φ [.pv (B false)]))
 (Φ [.pv (B false)]))
 (Φ [.pv (B false)]))
 (Φ [.pv (B false)])))))
 (Fk (a0.kind == 3)
 (Ln (List.map I a0.item.l) (Ln (List.map U8 a0.item.body) (Ln (List.map I a0.l) (Fk x1
 (Fk (decide (0 ≤ a0.to_))
 (Fk (decide (a0.to_ ≤ 63))
 (Fk (decide (1 ≤ a0.lo))
 (Fk (decide (a0.lo ≤ 4611686018427387904))
 (Fk (decide (1 ≤ a0.many))
 (Fk (decide (a0.many ≤ 64))
 (Fk (a0.top == 0)
 (Φ [.pv (B (((List.map I a0.l).length : Int) == 0))])
 (Φ [.pv (B false)]))
 (Φ [.pv (B false)]))
 (Φ [.pv (B false)]))
 (Φ [.pv (B false)]))
 (Φ [.pv (B false)]))
 (Φ [.pv (B false)]))
 (Φ [.pv (B false)]))
 (Φ [.pv (B false)])))))
 (Fk (a0.kind == 4)
 (SmA (.bp 65544 0) ∧ SmA (.pv (I a0.kind)) ∧ SmA (.pv (I a0.from_)) ∧ SmA (.pv (I a0.item.kind)) ∧ SmA (.pv (I a0.item.seq)) ∧ SmA (.pv (I a0.item.epoch)) ∧ SmA (.pv (I a0.item.index)) ∧ SmA (.pv (I a0.item.total)) ∧ SmA (.pv (I a0.item.count)) ∧ SmA (.pv (.sl false (List.map I a0.item.l))) ∧ SmA (.pv (.sl false (List.map U8 a0.item.body))) ∧ SmA (.pv (I a0.to_)) ∧ SmA (.pv (I a0.lo)) ∧ SmA (.pv (I a0.many)) ∧ SmA (.pv (I a0.top)) ∧ SmA (.pv (.sl false (List.map I a0.l))) ∧ Lo (fun (L4 : Bool × Int × Unit × Unit → Prop) (v3 : Bool × Int × Unit × Unit) =>
 Ln (List.map I a0.item.l) (Ln (List.map U8 a0.item.body) (Ln (List.map I a0.l) (Fk (decide (v3.2.1 < ((List.map I a0.l).length : Int)))
 (Ix I (List.map I a0.l) v3.2.1 fun x5 =>
 Fk (decide (x5 < 0))
 (Φ [.pv (B false)])
 (Ix I (List.map I a0.l) v3.2.1 fun x6 =>
 Fk (decide (4611686018427387904 < x6))
 (Φ [.pv (B false)])
 (SmA (.bp 65544 0) ∧ SmA (.pv (I a0.kind)) ∧ SmA (.pv (I a0.from_)) ∧ SmA (.pv (I a0.item.kind)) ∧ SmA (.pv (I a0.item.seq)) ∧ SmA (.pv (I a0.item.epoch)) ∧ SmA (.pv (I a0.item.index)) ∧ SmA (.pv (I a0.item.total)) ∧ SmA (.pv (I a0.item.count)) ∧ SmA (.pv (.sl false (List.map I a0.item.l))) ∧ SmA (.pv (.sl false (List.map U8 a0.item.body))) ∧ SmA (.pv (I a0.to_)) ∧ SmA (.pv (I a0.lo)) ∧ SmA (.pv (I a0.many)) ∧ SmA (.pv (I a0.top)) ∧ SmA (.pv (.sl false (List.map I a0.l))) ∧ L4 (v3.1, w64 (v3.2.1 + 1), (), ()))))
 (Fk v3.1
 (Fk (a0.to_ == 0)
 (Fk (a0.lo == 0)
 (Fk (a0.many == 0)
 (Fk (decide (0 ≤ a0.top))
 (Fk (decide (a0.top ≤ 4611686018427387904))
 (Fk (decide (2 ≤ ((List.map I a0.l).length : Int)))
 (Φ [.pv (B (decide (((List.map I a0.l).length : Int) ≤ 64)))])
 (Φ [.pv (B false)]))
 (Φ [.pv (B false)]))
 (Φ [.pv (B false)]))
 (Φ [.pv (B false)]))
 (Φ [.pv (B false)]))
 (Φ [.pv (B false)]))
 (Φ [.pv (B false)])))))) (x1, 0, (), ()))
 (Φ [.pv (B false)]))))))
theorem t9 (a0 : Packet) {Φ : List RV → Prop} (h : P9 a0 Φ) : CtP Tryz.prog 9 [ePacket a0] Φ :=
  ctP_by h 1000 [(1003, .call [.pv .bool]), (2002, .call [.pv .bool]), (3003, .fork [(3007, .off)] []), (3007, .fork [] []), (6001, .fork [] []), (7001, .fork [] []), (8001, .fork [] [(8006, .off), (8011, .off), (8016, .off), (8021, .off)]), (8006, .fork [] [(8011, .off), (8016, .off), (8021, .off)]), (8011, .fork [] [(8016, .off), (8021, .off)]), (8016, .fork [] [(8021, .off)]), (8021, .fork [] []), (8997, .lens [1]), (9001, .fork [] []), (10001, .fork [] [(10006, .off), (10011, .off), (10016, .off), (10021, .off), (10026, .off), (10031, .off), (10036, .off)]), (10006, .fork [] [(10011, .off), (10016, .off), (10021, .off), (10026, .off), (10031, .off), (10036, .off)]), (10011, .fork [] [(10016, .off), (10021, .off), (10026, .off), (10031, .off), (10036, .off)]), (10016, .fork [] [(10021, .off), (10026, .off), (10031, .off), (10036, .off)]), (10021, .fork [] [(10026, .off), (10031, .off), (10036, .off)]), (10026, .fork [] [(10031, .off), (10036, .off)]), (10031, .fork [] [(10036, .off)]), (10036, .fork [] []), (10997, .lens [1]), (11001, .fork [] []), (13004, .fork [] []), (13997, .lens [1]), (13999, .loop [.k 1 (.bp 65544 0), .c 3 .bool, .c 5 (.int .i64), .box 65544 true [.k (.pv (I a0.kind)), .k (.pv (I a0.from_)), .k (.pv (I a0.item.kind)), .k (.pv (I a0.item.seq)), .k (.pv (I a0.item.epoch)), .k (.pv (I a0.item.index)), .k (.pv (I a0.item.total)), .k (.pv (I a0.item.count)), .k (.pv (.sl false (List.map I a0.item.l))), .k (.pv (.sl false (List.map U8 a0.item.body))), .k (.pv (I a0.to_)), .k (.pv (I a0.lo)), .k (.pv (I a0.many)), .k (.pv (I a0.top)), .k (.pv (.sl false (List.map I a0.l)))]]), (15003, .ix Int I), (15006, .fork [(15013, .off)] []), (15010, .ix Int I), (15013, .fork [] []), (17001, .fork [] [(17006, .off), (17011, .off), (17016, .off), (17021, .off), (17026, .off), (17032, .off)]), (17006, .fork [] [(17011, .off), (17016, .off), (17021, .off), (17026, .off), (17032, .off)]), (17011, .fork [] [(17016, .off), (17021, .off), (17026, .off), (17032, .off)]), (17016, .fork [] [(17021, .off), (17026, .off), (17032, .off)]), (17021, .fork [] [(17026, .off), (17032, .off)]), (17026, .fork [] [(17032, .off)]), (17032, .fork [] [])] mixed Tryz.func9 rfl (by kernel_rfl) (by kernel_rfl)

/-- precentorref20.Done -/
def P10 (a0 : List PV) (a1 : Int) (Φ : List RV → Prop) : Prop :=
 SmA (.pv (.sl false a0)) ∧ SmA (.pv (I a1)) ∧ Lo (fun (L2 : Int × Unit → Prop) (v1 : Int × Unit) =>
 Ln a0 (Fk (decide (v1.1 < (a0.length : Int)))
 (Ix I a0 v1.1 fun x3 =>
 ∃ x4, Cl 27 [I x3] [.pv (B x4)] ∧
 Fk (!x4)
 (Φ [.pv (B false)])
 (SmA (.pv (.sl false a0)) ∧ SmA (.pv (I a1)) ∧ L2 (w64 (v1.1 + 1), ())))
 (Φ [.pv (B ((a0.length : Int) == a1))]))) (0, ())
theorem t10 (a0 : List PV) (a1 : Int) {Φ : List RV → Prop} (h : P10 a0 a1 Φ) : CtP Tryz.prog 10 [.sl false a0, I a1] Φ :=
  ctP_by h 1000 [(2003, .fork [] []), (2997, .lens [0]), (2999, .loop [.k 0 (.pv (.sl false a0)), .k 1 (.pv (I a1)), .c 5 (.int .i64)]), (4002, .ix Int I), (4004, .call [.pv .bool]), (5001, .fork [] [])] mixed Tryz.func10 rfl (by kernel_rfl) (by kernel_rfl)

/-- precentorref09.waits -/
def P97 (a0 : Win) (a1 : Int) (Φ : List RV → Prop) : Prop :=
 SmA (.pv (I a1)) ∧ SmA (.bp 65552 0) ∧ SmA (.pv (I a0.next)) ∧ SmA (.pv (.sl false (List.map eItem a0.l))) ∧ Lo (fun (L2 : Int × Unit × Unit → Prop) (v1 : Int × Unit × Unit) =>
 Ln (List.map eItem a0.l) (Fk (decide (v1.1 < ((List.map eItem a0.l).length : Int)))
 (Ix eItem (List.map eItem a0.l) v1.1 fun x3 =>
 Fk (x3.seq == a1)
 (Φ [.pv (B true)])
 (SmA (.pv (I a1)) ∧ SmA (.bp 65552 0) ∧ SmA (.pv (I a0.next)) ∧ SmA (.pv (.sl false (List.map eItem a0.l))) ∧ L2 (w64 (v1.1 + 1), (), ())))
 (Φ [.pv (B false)]))) (0, (), ())
theorem t97 (a0 : Win) (a1 : Int) {Φ : List RV → Prop} (h : P97 a0 a1 Φ) : CtP Tryz.prog 97 [eWin a0, I a1] Φ :=
  ctP_by h 1000 [(2004, .fork [] []), (2997, .lens [2]), (2999, .loop [.k 1 (.pv (I a1)), .k 2 (.bp 65552 0), .c 5 (.int .i64), .box 65552 true [.k (.pv (I a0.next)), .k (.pv (.sl false (List.map eItem a0.l)))]]), (4003, .ix Item eItem), (4007, .fork [] [])] mixed Tryz.func97 rfl (by kernel_rfl) (by kernel_rfl)

/-- precentorref09.Gap -/
def P39 (a0 : Win) (a1 : Int) (Φ : List RV → Prop) : Prop :=
 Jn (fun v1 : Int × Unit × Unit =>
 SmA (.bp 65552 0) ∧ SmA (.pv (I a0.next)) ∧ SmA (.pv (.sl false (List.map eItem a0.l))) ∧ Lo (fun (L4 : Int × Int × Unit × Unit → Prop) (v3 : Int × Int × Unit × Unit) =>
 ∃ x5, Cl 97 [eWin a0, I v3.2.1] [.pv (B x5)] ∧
 Fk x5
 (SmA (.bp 65552 0) ∧ SmA (.pv (I a0.next)) ∧ SmA (.pv (.sl false (List.map eItem a0.l))) ∧ L4 (v3.1, w64 (v3.2.1 + 1), (), ()))
 (Fk (decide (v3.1 < v3.2.1))
 (Φ [.pv (I 0), .pv (I 0)])
 (Jn (fun v6 : Int × Int × Unit =>
 Φ [.pv (I v6.1), .pv (I v6.2.1)]) (fun j7 =>
 SmA (.bp 65552 0) ∧ SmA (.pv (I a0.next)) ∧ SmA (.pv (.sl false (List.map eItem a0.l))) ∧ Lo (fun (L9 : Int × Int × Int × Unit × Unit → Prop) (v8 : Int × Int × Int × Unit × Unit) =>
 Fk (decide (v8.2.2.1 < 64))
 (Fk (decide ((w64 (v8.2.1 + v8.2.2.1)) ≤ v8.1))
 (∃ x10, Cl 97 [eWin a0, I (w64 (v8.2.1 + v8.2.2.1))] [.pv (B x10)] ∧
 Fk (!x10)
 (SmA (.bp 65552 0) ∧ SmA (.pv (I a0.next)) ∧ SmA (.pv (.sl false (List.map eItem a0.l))) ∧ L9 (v8.1, v8.2.1, w64 (v8.2.2.1 + 1), (), ()))
 (j7 (v8.2.1, v8.2.2.1, ())))
 (j7 (v8.2.1, v8.2.2.1, ())))
 (j7 (v8.2.1, v8.2.2.1, ()))) (v3.1, v3.2.1, 0, (), ()))))) (v1.1, a0.next, (), ())) (fun j2 =>
 (fun j2 : Int × Unit × Unit → Prop =>
 Fk (decide (4611686018427387904 < a1))
 (j2 (4611686018427387904, (), ()))
 (j2 (a1, (), ()))) (fun v => SmA (.bp 65552 0) ∧ SmA (.pv (I a0.next)) ∧ SmA (.pv (.sl false (List.map eItem a0.l))) ∧ j2 v))
theorem t39 (a0 : Win) (a1 : Int) {Φ : List RV → Prop} (h : P39 a0 a1 Φ) : CtP Tryz.prog 39 [eWin a0, I a1] Φ :=
  ctP_by h 1000 [(1001, .fork [] []), (3998, .join [.c 1 (.int .i64), .k 2 (.bp 65552 0), .box 65552 true [.k (.pv (I a0.next)), .k (.pv (.sl false (List.map eItem a0.l)))]]), (4002, .callf [.pv .bool] [] []), (4999, .loop [.c 1 (.int .i64), .k 2 (.bp 65552 0), .c 6 (.int .i64), .box 65552 true [.k (.pv (I a0.next)), .k (.pv (.sl false (List.map eItem a0.l)))]]), (6002, .fork [] []), (9002, .fork [] [(9009, .off), (9016, .off)]), (9009, .fork [] [(9016, .off)]), (9014, .call [.pv .bool]), (9016, .fork [] []), (9999, .loop [.c 1 (.int .i64), .k 2 (.bp 65552 0), .c 6 (.int .i64), .c 7 (.int .i64), .box 65552 true [.k (.pv (I a0.next)), .k (.pv (.sl false (List.map eItem a0.l)))]]), (11998, .join [.c 6 (.int .i64), .c 7 (.int .i64)])] mixed Tryz.func39 rfl (by kernel_rfl) (by kernel_rfl)

/-- precentorref10.Hush -/
def P41 (a0 : Ask) (a1 : Int) (a2 : Int) (Φ : List RV → Prop) : Prop :=
 Jn (fun v1 : Unit × Unit × Unit =>
 Φ [.pv (eAsk a0)]) (fun j2 =>
 (fun j2 : Unit × Unit × Unit → Prop =>
 Fk (a0.due != 0)
 (Fk (decide (a0.due < (w64 (a1 + a2))))
 (Φ [.pv (.agg [I (w64 (a1 + a2))])])
 (j2 ((), (), ())))
 (j2 ((), (), ()))) (fun v => SmA (.bp 65560 0) ∧ SmA (.bp 65584 0) ∧ SmA (.pv (I a0.due)) ∧ SmA (.pv (I 0)) ∧ j2 v))
theorem t41 (a0 : Ask) (a1 : Int) (a2 : Int) {Φ : List RV → Prop} (h : P41 a0 a1 a2 Φ) : CtP Tryz.prog 41 [eAsk a0, I a1, I a2] Φ :=
  ctP_by h 1000 [(1003, .fork [] [(1010, .off)]), (1010, .fork [] []), (3998, .join [.k 3 (.bp 65560 0), .k 6 (.bp 65584 0), .box 65560 true [.k (.pv (I a0.due))], .box 65584 true [.k (.pv (I 0))]])] mixed Tryz.func41 rfl (by kernel_rfl) (by kernel_rfl)

/-- precentorref20.withAsk -/
def P40 (a0 : Rel) (a1 : Int) (a2 : Ask) (Φ : List RV → Prop) : Prop :=
 Ok (okNews 1 (List.map eAsk a0.ask)) (Sz 0 ((List.map eAsk a0.ask).length) 8 (
 Rx a1 (0 + (List.map eAsk a0.ask).length) (
 Ld eAsk (List.map eAsk a0.ask) (0 + a1.toNat) fun x1 =>
 Φ [.pv (.agg [I a0.me, I a0.now, I a0.keep.next, .sl false (List.map eItem a0.keep.l), .sl false (List.map eWin a0.win), .sl false (List.map I a0.top), .sl false ((List.map eAsk a0.ask).set (0 + a1.toNat) (eAsk a2)), .sl false (List.map lI a0.have_), .sl false (List.map I a0.lost), I a0.naks])])))
theorem t40 (a0 : Rel) (a1 : Int) (a2 : Ask) {Φ : List RV → Prop} (h : P40 a0 a1 a2 Φ) : CtP Tryz.prog 40 [eRel a0, I a1, eAsk a2] Φ :=
  ctP_by h 1000 [(1003, .app true false), (2003, .ixr), (2004, .st Ask eAsk)] mixed Tryz.func40 rfl (by kernel_rfl) (by kernel_rfl)

/-- precentorref20.withTop -/
def P42 (a0 : Rel) (a1 : Int) (a2 : Int) (Φ : List RV → Prop) : Prop :=
 Ok (okNews 1 (List.map I a0.top)) (Sz 0 ((List.map I a0.top).length) 8 (
 Jn (fun v1 : List PV × Unit × Unit × Unit =>
 Φ [.pv (.agg [I a0.me, I a0.now, I a0.keep.next, .sl false (List.map eItem a0.keep.l), .sl false (List.map eWin a0.win), .sl false v1.1, .sl false (List.map eAsk a0.ask), .sl false (List.map lI a0.have_), .sl false (List.map I a0.lost), I a0.naks])]) (fun j2 =>
 (fun j2 : List PV × Unit × Unit × Unit → Prop =>
 Rx a1 (0 + (List.map I a0.top).length) (
 Ld I (List.map I a0.top) (0 + a1.toNat) fun x3 =>
 Fk (decide (x3 < a2))
 (Rx a1 (0 + (List.map I a0.top).length) (
 Ld I (List.map I a0.top) (0 + a1.toNat) fun x4 =>
 j2 ((List.map I a0.top).set (0 + a1.toNat) (I a2), (), (), ())))
 (j2 (List.map I a0.top, (), (), ())))) (fun v => SmA (.bp 65560 0) ∧ SmA (.bp 65584 0) ∧ SmA (.pv (I a0.me)) ∧ SmA (.pv (I a0.now)) ∧ SmA (.pv (I a0.keep.next)) ∧ SmA (.pv (.sl false (List.map eItem a0.keep.l))) ∧ SmA (.pv (.sl false (List.map eWin a0.win))) ∧ SmA (.pv (.sl false (List.map I a0.top))) ∧ SmA (.pv (.sl false (List.map eAsk a0.ask))) ∧ SmA (.pv (.sl false (List.map lI a0.have_))) ∧ SmA (.pv (.sl false (List.map I a0.lost))) ∧ SmA (.pv (I a0.naks)) ∧ SmA (.pv (I 0)) ∧ SmA (.pv (I 0)) ∧ SmA (.pv (I 0)) ∧ SmA (.pv (.sl true [])) ∧ SmA (.pv (.sl true [])) ∧ SmA (.pv (.sl true [])) ∧ SmA (.pv (.sl true [])) ∧ SmA (.pv (.sl true [])) ∧ SmA (.pv (.sl true [])) ∧ SmA (.pv (I 0)) ∧ j2 v))))
theorem t42 (a0 : Rel) (a1 : Int) (a2 : Int) {Φ : List RV → Prop} (h : P42 a0 a1 a2 Φ) : CtP Tryz.prog 42 [eRel a0, I a1, I a2] Φ :=
  ctP_by h 1000 [(1003, .app true false), (2003, .ixr), (2004, .ld Int I), (2005, .fork [] []), (3003, .ixr), (3004, .st Int I), (4998, .join [.k 3 (.bp 65560 0), .k 6 (.bp 65584 0), .r 7 3 1, .box 65560 true [.k (.pv (I a0.me)), .k (.pv (I a0.now)), .k (.pv (I a0.keep.next)), .k (.pv (.sl false (List.map eItem a0.keep.l))), .k (.pv (.sl false (List.map eWin a0.win))), .k (.pv (.sl false (List.map I a0.top))), .k (.pv (.sl false (List.map eAsk a0.ask))), .k (.pv (.sl false (List.map lI a0.have_))), .k (.pv (.sl false (List.map I a0.lost))), .k (.pv (I a0.naks))], .box 65584 true [.k (.pv (I 0)), .k (.pv (I 0)), .k (.pv (I 0)), .k (.pv (.sl true [])), .k (.pv (.sl true [])), .k (.pv (.sl true [])), .k (.pv (.sl true [])), .k (.pv (.sl true [])), .k (.pv (.sl true [])), .k (.pv (I 0))]])] mixed Tryz.func42 rfl (by kernel_rfl) (by kernel_rfl)

/-- precentorref07.long -/
def P98 (a0 : List PV) (a1 : List PV) (Φ : List RV → Prop) : Prop :=
 Ln a0 (Ln a1 (Fk (decide ((a1.length : Int) < (a0.length : Int)))
 (Φ [.pv (I (a0.length : Int))])
 (Φ [.pv (I (a1.length : Int))])))
theorem t98 (a0 : List PV) (a1 : List PV) {Φ : List RV → Prop} (h : P98 a0 a1 Φ) : CtP Tryz.prog 98 [.sl false a0, .sl false a1] Φ :=
  ctP_by h 1000 [(1004, .fork [] []), (1997, .lens [0, 1])] mixed Tryz.func98 rfl (by kernel_rfl) (by kernel_rfl)

/-- precentorref07.At -/
def P99 (a0 : List PV) (a1 : Int) (Φ : List RV → Prop) : Prop :=
 Jn (fun v1 : Unit =>
 Φ [.pv (I 0)]) (fun j2 =>
 Ln a0 (Fk (decide (0 ≤ a1))
 (Fk (decide (a1 < (a0.length : Int)))
 (Ix I a0 a1 fun x3 =>
 Φ [.pv (I x3)])
 (j2 (())))
 (j2 (()))))
theorem t99 (a0 : List PV) (a1 : Int) {Φ : List RV → Prop} (h : P99 a0 a1 Φ) : CtP Tryz.prog 99 [.sl false a0, I a1] Φ :=
  ctP_by h 1000 [(1002, .fork [] [(1007, .off)]), (1007, .fork [] []), (1997, .lens [0]), (2002, .ix Int I), (3998, .join [])] mixed Tryz.func99 rfl (by kernel_rfl) (by kernel_rfl)

/-- precentorref07.Max -/
def P43 (a0 : List PV) (a1 : List PV) (Φ : List RV → Prop) : Prop :=
 SmA (.pv (.sl false a0)) ∧ SmA (.pv (.sl false a1)) ∧ Lo (fun (L2 : List PV × Int × Unit → Prop) (v1 : List PV × Int × Unit) =>
 ∃ x3, Cl 98 [.sl false a0, .sl false a1] [.pv (I x3)] ∧
 Fk (decide (v1.2.1 < x3))
 (∃ x4, Cl 99 [.sl false a0, I v1.2.1] [.pv (I x4)] ∧
 ∃ x5, Cl 99 [.sl false a1, I v1.2.1] [.pv (I x5)] ∧
 Jn (fun v6 : List PV × Int × Int × Unit =>
 Sz v6.1.length 1 8 (
 SmA (.pv (.sl false a0)) ∧ SmA (.pv (.sl false a1)) ∧ L2 (v6.1 ++ [I v6.2.2.1], w64 (v6.2.1 + 1), ()))) (fun j7 =>
 (fun j7 : List PV × Int × Int × Unit → Prop =>
 Fk (decide (x4 < x5))
 (j7 (v1.1, v1.2.1, x5, ()))
 (j7 (v1.1, v1.2.1, x4, ()))) (fun v => SmA (.pv (.sl false a0)) ∧ SmA (.pv (.sl false a1)) ∧ j7 v)))
 (Φ [.fresh 3 1 v1.1])) ([], 0, ())
theorem t43 (a0 : List PV) (a1 : List PV) {Φ : List RV → Prop} (h : P43 a0 a1 Φ) : CtP Tryz.prog 43 [.sl false a0, .sl false a1] Φ :=
  ctP_by h 1000 [(3003, .call [.pv (.int .i64)]), (3004, .fork [] []), (3999, .loop [.k 0 (.pv (.sl false a0)), .k 1 (.pv (.sl false a1)), .r 5 3 1, .c 6 (.int .i64)]), (5002, .call [.pv (.int .i64)]), (6002, .call [.pv (.int .i64)]), (7002, .fork [] []), (9003, .app false false), (9998, .join [.k 0 (.pv (.sl false a0)), .k 1 (.pv (.sl false a1)), .r 5 3 1, .c 6 (.int .i64), .c 7 (.int .i64)])] mixed Tryz.func43 rfl (by kernel_rfl) (by kernel_rfl)

/-- precentorref09.Put -/
def P44 (a0 : Win) (a1 : Item) (a2 : Int) (Φ : List RV → Prop) : Prop :=
 ∃ x1, Cl 31 [eItem a1] [.pv (B x1)] ∧
 Ln (List.map eItem a0.l) (Fk (!x1)
 (Φ [.pv (eWin a0), .pv (B false)])
 (Fk (decide (a1.seq < a0.next))
 (Φ [.pv (eWin a0), .pv (B false)])
 (Fk (decide (a2 < a1.seq))
 (Φ [.pv (eWin a0), .pv (B false)])
 (Fk (decide (64 ≤ ((List.map eItem a0.l).length : Int)))
 (Φ [.pv (eWin a0), .pv (B false)])
 (∃ x2, Cl 97 [eWin a0, I a1.seq] [.pv (B x2)] ∧
 Fk x2
 (Φ [.pv (eWin a0), .pv (B false)])
 (SmA (.bp 65560 0) ∧ SmA (.bp 65568 0) ∧ SmA (.bp 65584 0) ∧ SmA (.pv (I a0.next)) ∧ SmA (.pv (.sl false (List.map eItem a0.l))) ∧ SmA (.pv (I a1.kind)) ∧ SmA (.pv (I a1.seq)) ∧ SmA (.pv (I a1.epoch)) ∧ SmA (.pv (I a1.index)) ∧ SmA (.pv (I a1.total)) ∧ SmA (.pv (I a1.count)) ∧ SmA (.pv (.sl false (List.map I a1.l))) ∧ SmA (.pv (.sl false (List.map U8 a1.body))) ∧ SmA (.pv (I 0)) ∧ SmA (.pv (.sl true [])) ∧ Lo (fun (L4 : List PV × Bool × Int × Unit × Unit × Unit × Unit → Prop) (v3 : List PV × Bool × Int × Unit × Unit × Unit × Unit) =>
 Fk (decide (v3.2.2.1 < ((List.map eItem a0.l).length : Int)))
 (Jn (fun v5 : List PV × Bool × Int × Unit × Unit × Unit × Unit =>
 Ix eItem (List.map eItem a0.l) v5.2.2.1 fun x7 =>
 Sz v5.1.length 1 96 (
 SmA (.bp 65560 0) ∧ SmA (.bp 65568 0) ∧ SmA (.bp 65584 0) ∧ SmA (.pv (I a0.next)) ∧ SmA (.pv (.sl false (List.map eItem a0.l))) ∧ SmA (.pv (I a1.kind)) ∧ SmA (.pv (I a1.seq)) ∧ SmA (.pv (I a1.epoch)) ∧ SmA (.pv (I a1.index)) ∧ SmA (.pv (I a1.total)) ∧ SmA (.pv (I a1.count)) ∧ SmA (.pv (.sl false (List.map I a1.l))) ∧ SmA (.pv (.sl false (List.map U8 a1.body))) ∧ SmA (.pv (I 0)) ∧ SmA (.pv (.sl true [])) ∧ L4 (v5.1 ++ [eItem x7], v5.2.1, w64 (v5.2.2.1 + 1), (), (), (), ()))) (fun j6 =>
 (fun j6 : List PV × Bool × Int × Unit × Unit × Unit × Unit → Prop =>
 Fk (!v3.2.1)
 (Ix eItem (List.map eItem a0.l) v3.2.2.1 fun x8 =>
 Fk (decide (a1.seq < x8.seq))
 (Sz v3.1.length 1 96 (
 j6 (v3.1 ++ [eItem a1], true, v3.2.2.1, (), (), (), ())))
 (j6 (v3.1, v3.2.1, v3.2.2.1, (), (), (), ())))
 (j6 (v3.1, v3.2.1, v3.2.2.1, (), (), (), ()))) (fun v => SmA (.bp 65560 0) ∧ SmA (.bp 65568 0) ∧ SmA (.bp 65584 0) ∧ SmA (.pv (I a0.next)) ∧ SmA (.pv (.sl false (List.map eItem a0.l))) ∧ SmA (.pv (I a1.kind)) ∧ SmA (.pv (I a1.seq)) ∧ SmA (.pv (I a1.epoch)) ∧ SmA (.pv (I a1.index)) ∧ SmA (.pv (I a1.total)) ∧ SmA (.pv (I a1.count)) ∧ SmA (.pv (.sl false (List.map I a1.l))) ∧ SmA (.pv (.sl false (List.map U8 a1.body))) ∧ SmA (.pv (I 0)) ∧ SmA (.pv (.sl true [])) ∧ j6 v)))
 (Jn (fun v9 : List PV × Unit × Unit × Unit =>
 Φ [.pv (.agg [I a0.next, .sl false v9.1]), .pv (B true)]) (fun j10 =>
 (fun j10 : List PV × Unit × Unit × Unit → Prop =>
 Fk (!v3.2.1)
 (Sz v3.1.length 1 96 (
 j10 (v3.1 ++ [eItem a1], (), (), ())))
 (j10 (v3.1, (), (), ()))) (fun v => SmA (.bp 65560 0) ∧ SmA (.bp 65584 0) ∧ SmA (.pv (I a0.next)) ∧ SmA (.pv (.sl false (List.map eItem a0.l))) ∧ SmA (.pv (I 0)) ∧ SmA (.pv (.sl true [])) ∧ j10 v)))) ([], false, 0, (), (), (), ())))))))
theorem t44 (a0 : Win) (a1 : Item) (a2 : Int) {Φ : List RV → Prop} (h : P44 a0 a1 a2 Φ) : CtP Tryz.prog 44 [eWin a0, eItem a1, I a2] Φ :=
  ctP_by h 1000 [(1001, .call [.pv .bool]), (2002, .fork [(2015, .off), (2021, .off), (2026, .off), (2009, .off)] []), (2009, .fork [(2021, .off), (2026, .off), (2015, .off)] []), (2015, .fork [(2026, .off), (2021, .off)] []), (2021, .fork [(2026, .off)] []), (2025, .call [.pv .bool]), (2026, .fork [] []), (2997, .lens [3]), (7004, .fork [] []), (7999, .loop [.k 3 (.bp 65560 0), .k 4 (.bp 65568 0), .k 6 (.bp 65584 0), .r 9 33 8, .c 10 .bool, .c 11 (.int .i64), .box 65560 true [.k (.pv (I a0.next)), .k (.pv (.sl false (List.map eItem a0.l)))], .box 65568 true [.k (.pv (I a1.kind)), .k (.pv (I a1.seq)), .k (.pv (I a1.epoch)), .k (.pv (I a1.index)), .k (.pv (I a1.total)), .k (.pv (I a1.count)), .k (.pv (.sl false (List.map I a1.l))), .k (.pv (.sl false (List.map U8 a1.body)))], .box 65584 true [.k (.pv (I 0)), .k (.pv (.sl true []))]]), (9002, .fork [] [(9012, .off)]), (9006, .ix Item eItem), (9012, .fork [] []), (10003, .app false false), (12004, .ix Item eItem), (12007, .app false false), (12998, .join [.k 3 (.bp 65560 0), .k 4 (.bp 65568 0), .k 6 (.bp 65584 0), .r 9 33 8, .c 10 .bool, .c 11 (.int .i64), .box 65560 true [.k (.pv (I a0.next)), .k (.pv (.sl false (List.map eItem a0.l)))], .box 65568 true [.k (.pv (I a1.kind)), .k (.pv (I a1.seq)), .k (.pv (I a1.epoch)), .k (.pv (I a1.index)), .k (.pv (I a1.total)), .k (.pv (I a1.count)), .k (.pv (.sl false (List.map I a1.l))), .k (.pv (.sl false (List.map U8 a1.body)))], .box 65584 true [.k (.pv (I 0)), .k (.pv (.sl true []))]]), (13001, .fork [] []), (14003, .app false false), (15998, .join [.k 3 (.bp 65560 0), .k 6 (.bp 65584 0), .r 9 33 8, .box 65560 true [.k (.pv (I a0.next)), .k (.pv (.sl false (List.map eItem a0.l)))], .box 65584 true [.k (.pv (I 0)), .k (.pv (.sl true []))]])] mixed Tryz.func44 rfl (by kernel_rfl) (by kernel_rfl)

/-- precentorref20.withWin -/
def P45 (a0 : Rel) (a1 : Int) (a2 : Win) (Φ : List RV → Prop) : Prop :=
 Ok (okNews 2 (List.map eWin a0.win)) (Sz 0 ((List.map eWin a0.win).length) 32 (
 Rx a1 (0 + (List.map eWin a0.win).length) (
 Ld eWin (List.map eWin a0.win) (0 + a1.toNat) fun x1 =>
 Φ [.pv (.agg [I a0.me, I a0.now, I a0.keep.next, .sl false (List.map eItem a0.keep.l), .sl false ((List.map eWin a0.win).set (0 + a1.toNat) (eWin a2)), .sl false (List.map I a0.top), .sl false (List.map eAsk a0.ask), .sl false (List.map lI a0.have_), .sl false (List.map I a0.lost), I a0.naks])])))
theorem t45 (a0 : Rel) (a1 : Int) (a2 : Win) {Φ : List RV → Prop} (h : P45 a0 a1 a2 Φ) : CtP Tryz.prog 45 [eRel a0, I a1, eWin a2] Φ :=
  ctP_by h 1000 [(1003, .app true false), (2003, .ixr), (2004, .st Win eWin)] mixed Tryz.func45 rfl (by kernel_rfl) (by kernel_rfl)

/-- precentorref08.Get -/
def P52 (a0 : Keep) (a1 : Int) (Φ : List RV → Prop) : Prop :=
 SmA (.pv (I a1)) ∧ SmA (.bp 65552 0) ∧ SmA (.bp 65568 0) ∧ SmA (.pv (I a0.next)) ∧ SmA (.pv (.sl false (List.map eItem a0.l))) ∧ SmA (.pv (I 0)) ∧ SmA (.pv (I 0)) ∧ SmA (.pv (I 0)) ∧ SmA (.pv (I 0)) ∧ SmA (.pv (I 0)) ∧ SmA (.pv (I 0)) ∧ SmA (.pv (.sl true [])) ∧ SmA (.pv (.sl true [])) ∧ Lo (fun (L2 : Int × Unit × Unit × Unit → Prop) (v1 : Int × Unit × Unit × Unit) =>
 Ln (List.map eItem a0.l) (Fk (decide (v1.1 < ((List.map eItem a0.l).length : Int)))
 (Ix eItem (List.map eItem a0.l) v1.1 fun x3 =>
 Fk (x3.seq == a1)
 (Ix eItem (List.map eItem a0.l) v1.1 fun x4 =>
 Φ [.pv (eItem x4), .pv (B true)])
 (SmA (.pv (I a1)) ∧ SmA (.bp 65552 0) ∧ SmA (.bp 65568 0) ∧ SmA (.pv (I a0.next)) ∧ SmA (.pv (.sl false (List.map eItem a0.l))) ∧ SmA (.pv (I 0)) ∧ SmA (.pv (I 0)) ∧ SmA (.pv (I 0)) ∧ SmA (.pv (I 0)) ∧ SmA (.pv (I 0)) ∧ SmA (.pv (I 0)) ∧ SmA (.pv (.sl true [])) ∧ SmA (.pv (.sl true [])) ∧ L2 (w64 (v1.1 + 1), (), (), ())))
 (Φ [.pv (.agg [I 0, I 0, I 0, I 0, I 0, I 0, .sl true [], .sl true []]), .pv (B false)]))) (0, (), (), ())
theorem t52 (a0 : Keep) (a1 : Int) {Φ : List RV → Prop} (h : P52 a0 a1 Φ) : CtP Tryz.prog 52 [eKeep a0, I a1] Φ :=
  ctP_by h 1000 [(2004, .fork [] []), (2997, .lens [2]), (2999, .loop [.k 1 (.pv (I a1)), .k 2 (.bp 65552 0), .k 4 (.bp 65568 0), .c 6 (.int .i64), .box 65552 true [.k (.pv (I a0.next)), .k (.pv (.sl false (List.map eItem a0.l)))], .box 65568 true [.k (.pv (I 0)), .k (.pv (I 0)), .k (.pv (I 0)), .k (.pv (I 0)), .k (.pv (I 0)), .k (.pv (I 0)), .k (.pv (.sl true [])), .k (.pv (.sl true []))]]), (4003, .ix Item eItem), (4007, .fork [] []), (5003, .ix Item eItem)] mixed Tryz.func52 rfl (by kernel_rfl) (by kernel_rfl)

/-- precentorref20.in -/
def P96 (a0 : List PV) (a1 : Int) (Φ : List RV → Prop) : Prop :=
 SmA (.pv (.sl false a0)) ∧ SmA (.pv (I a1)) ∧ Lo (fun (L2 : Int × Unit → Prop) (v1 : Int × Unit) =>
 Ln a0 (Fk (decide (v1.1 < (a0.length : Int)))
 (Ix I a0 v1.1 fun x3 =>
 Fk (x3 == a1)
 (Φ [.pv (B true)])
 (SmA (.pv (.sl false a0)) ∧ SmA (.pv (I a1)) ∧ L2 (w64 (v1.1 + 1), ())))
 (Φ [.pv (B false)]))) (0, ())
theorem t96 (a0 : List PV) (a1 : Int) {Φ : List RV → Prop} (h : P96 a0 a1 Φ) : CtP Tryz.prog 96 [.sl false a0, I a1] Φ :=
  ctP_by h 1000 [(2003, .fork [] []), (2997, .lens [0]), (2999, .loop [.k 0 (.pv (.sl false a0)), .k 1 (.pv (I a1)), .c 5 (.int .i64)]), (4002, .ix Int I), (4005, .fork [] [])] mixed Tryz.func96 rfl (by kernel_rfl) (by kernel_rfl)

/-- precentorref20.lost -/
def P38 (a0 : Rel) (a1 : Int) (a2 : Int) (Φ : List RV → Prop) : Prop :=
 SmA (.pv (I a1)) ∧ SmA (.pv (I a2)) ∧ SmA (.bp 65560 0) ∧ SmA (.pv (I a0.me)) ∧ SmA (.pv (I a0.now)) ∧ SmA (.pv (I a0.keep.next)) ∧ SmA (.pv (.sl false (List.map eItem a0.keep.l))) ∧ SmA (.pv (.sl false (List.map eWin a0.win))) ∧ SmA (.pv (.sl false (List.map I a0.top))) ∧ SmA (.pv (.sl false (List.map eAsk a0.ask))) ∧ SmA (.pv (.sl false (List.map lI a0.have_))) ∧ SmA (.pv (.sl false (List.map I a0.lost))) ∧ SmA (.pv (I a0.naks)) ∧ Lo (fun (L2 : List PV × Int × Unit × Unit → Prop) (v1 : List PV × Int × Unit × Unit) =>
 Fk (decide (v1.2.1 < a2))
 (Jn (fun v3 : List PV × Int × Unit × Unit =>
 SmA (.pv (I a1)) ∧ SmA (.pv (I a2)) ∧ SmA (.bp 65560 0) ∧ SmA (.pv (I a0.me)) ∧ SmA (.pv (I a0.now)) ∧ SmA (.pv (I a0.keep.next)) ∧ SmA (.pv (.sl false (List.map eItem a0.keep.l))) ∧ SmA (.pv (.sl false (List.map eWin a0.win))) ∧ SmA (.pv (.sl false (List.map I a0.top))) ∧ SmA (.pv (.sl false (List.map eAsk a0.ask))) ∧ SmA (.pv (.sl false (List.map lI a0.have_))) ∧ SmA (.pv (.sl false (List.map I a0.lost))) ∧ SmA (.pv (I a0.naks)) ∧ L2 (v3.1, w64 (v3.2.1 + 1), (), ())) (fun j4 =>
 (fun j4 : List PV × Int × Unit × Unit → Prop =>
 ∃ x5 x6, Cl 52 [eKeep a0.keep, I (w64 (a1 + v1.2.1))] [.pv (eItem x5), .pv (B x6)] ∧
 Fk x6
 (∃ x7, Cl 96 [.sl false (List.map I a0.lost), I (w64 (a1 + v1.2.1))] [.pv (B x7)] ∧
 Fk (!x7)
 (Sz v1.1.length 1 8 (
 j4 (v1.1 ++ [I (w64 (a1 + v1.2.1))], v1.2.1, (), ())))
 (j4 (v1.1, v1.2.1, (), ())))
 (j4 (v1.1, v1.2.1, (), ()))) (fun v => SmA (.pv (I a1)) ∧ SmA (.pv (I a2)) ∧ SmA (.bp 65560 0) ∧ SmA (.pv (I a0.me)) ∧ SmA (.pv (I a0.now)) ∧ SmA (.pv (I a0.keep.next)) ∧ SmA (.pv (.sl false (List.map eItem a0.keep.l))) ∧ SmA (.pv (.sl false (List.map eWin a0.win))) ∧ SmA (.pv (.sl false (List.map I a0.top))) ∧ SmA (.pv (.sl false (List.map eAsk a0.ask))) ∧ SmA (.pv (.sl false (List.map lI a0.have_))) ∧ SmA (.pv (.sl false (List.map I a0.lost))) ∧ SmA (.pv (I a0.naks)) ∧ j4 v)))
 (Ok (okNews 1 (List.map I a0.lost)) (Sz v1.1.length ((List.map I a0.lost).length) 8 (
 Jn (fun v8 : List PV × Unit =>
 Φ [.fresh 3 1 v8.1]) (fun j9 =>
 Lo (fun (L11 : List PV × List PV × Unit → Prop) (v10 : List PV × List PV × Unit) =>
 Ln v10.1 (Ln v10.2.1 (Fk (decide (0 < (v10.1.length : Int)))
 (Fk (decide ((v10.2.1.length : Int) < 64))
 (Lo (fun (L13 : List PV × List PV × Int × Int × Unit → Prop) (v12 : List PV × List PV × Int × Int × Unit) =>
 Ln v12.1 (Fk (decide (v12.2.2.2.1 < (v12.1.length : Int)))
 (Jn (fun v14 : List PV × List PV × Int × Int × Unit =>
 L13 (v14.1, v14.2.1, v14.2.2.1, w64 (v14.2.2.2.1 + 1), ())) (fun j15 =>
 Rx v12.2.2.2.1 v12.1.length (
 Ld I v12.1 (0 + v12.2.2.2.1.toNat) fun x16 =>
 Rx v12.2.2.1 v12.1.length (
 Ld I v12.1 (0 + v12.2.2.1.toNat) fun x17 =>
 Fk (decide (x16 < x17))
 (j15 (v12.1, v12.2.1, v12.2.2.2.1, v12.2.2.2.1, ()))
 (j15 (v12.1, v12.2.1, v12.2.2.1, v12.2.2.2.1, ()))))))
 (Rx v12.2.2.1 v12.1.length (
 Ld I v12.1 (0 + v12.2.2.1.toNat) fun x18 =>
 Sz v12.2.1.length 1 8 (
 Ph v12.1.length v12.2.2.1 (
 Pf (0 + (v12.2.2.1.toNat) ≤ v12.1.length) (Ok (okNews 1 (List.take v12.2.2.1.toNat (List.drop 0 v12.1))) (Sz 0 ((List.take v12.2.2.1.toNat (List.drop 0 v12.1)).length) 8 (
 Pl v12.1.length (w64 (v12.2.2.1 + 1)) (
 Pf (0 + (w64 (v12.2.2.1 + 1)).toNat + (v12.1.length - (w64 (v12.2.2.1 + 1)).toNat) ≤ v12.1.length) (Ok (okNews 1 (List.take (v12.1.length - (w64 (v12.2.2.1 + 1)).toNat) (List.drop (0 + (w64 (v12.2.2.1 + 1)).toNat) v12.1))) (Sz ((List.take v12.2.2.1.toNat (List.drop 0 v12.1)).length) ((List.take (v12.1.length - (w64 (v12.2.2.1 + 1)).toNat) (List.drop (0 + (w64 (v12.2.2.1 + 1)).toNat) v12.1)).length) 8 (
 L11 ((List.take v12.2.2.1.toNat (List.drop 0 v12.1)) ++ (List.take (v12.1.length - (w64 (v12.2.2.1 + 1)).toNat) (List.drop (0 + (w64 (v12.2.2.1 + 1)).toNat) v12.1)), v12.2.1 ++ [I x18], ())))))))))))))) (v10.1, v10.2.1, 0, 1, ()))
 (j9 (v10.2.1, ())))
 (j9 (v10.2.1, ()))))) (v1.1 ++ (List.map I a0.lost), [], ())))))) ([], 0, (), ())
theorem t38 (a0 : Rel) (a1 : Int) (a2 : Int) {Φ : List RV → Prop} (h : P38 a0 a1 a2 Φ) : CtP Tryz.prog 38 [eRel a0, I a1, I a2] Φ :=
  ctP_by h 1000 [(3002, .fork [] []), (3999, .loop [.k 1 (.pv (I a1)), .k 2 (.pv (I a2)), .k 3 (.bp 65560 0), .r 7 3 1, .c 8 (.int .i64), .box 65560 true [.k (.pv (I a0.me)), .k (.pv (I a0.now)), .k (.pv (I a0.keep.next)), .k (.pv (.sl false (List.map eItem a0.keep.l))), .k (.pv (.sl false (List.map eWin a0.win))), .k (.pv (.sl false (List.map I a0.top))), .k (.pv (.sl false (List.map eAsk a0.ask))), .k (.pv (.sl false (List.map lI a0.have_))), .k (.pv (.sl false (List.map I a0.lost))), .k (.pv (I a0.naks))]]), (4998, .join [.k 1 (.pv (I a1)), .k 2 (.pv (I a2)), .k 3 (.bp 65560 0), .r 7 3 1, .c 8 (.int .i64), .box 65560 true [.k (.pv (I a0.me)), .k (.pv (I a0.now)), .k (.pv (I a0.keep.next)), .k (.pv (.sl false (List.map eItem a0.keep.l))), .k (.pv (.sl false (List.map eWin a0.win))), .k (.pv (.sl false (List.map I a0.top))), .k (.pv (.sl false (List.map eAsk a0.ask))), .k (.pv (.sl false (List.map lI a0.have_))), .k (.pv (.sl false (List.map I a0.lost))), .k (.pv (I a0.naks))]]), (5005, .call [.pv (.ty Item eItem), .pv .bool]), (6001, .fork [] [(6009, .off)]), (6007, .call [.pv .bool]), (6009, .fork [] []), (7005, .app false false), (8003, .app true false), (10003, .fork [] [(10007, .off)]), (10007, .fork [] []), (10997, .lens [7, 11]), (10999, .loop [.r 7 3 1, .r 11 3 1]), (13003, .fork [] []), (13997, .lens [7]), (13999, .loop [.r 7 3 1, .r 11 3 1, .c 12 (.int .i64), .c 13 (.int .i64)]), (14998, .join [.r 7 3 1, .r 11 3 1, .c 12 (.int .i64), .c 13 (.int .i64)]), (15002, .ixr), (15003, .ld Int I), (15006, .ixr), (15007, .ld Int I), (15008, .fork [] []), (17003, .ixr), (17004, .ld Int I), (17006, .app false false), (18003, .slr), (18004, .appm false), (18008, .slr), (18009, .appm false), (19998, .join [.r 11 3 1])] mixed Tryz.func38 rfl (by kernel_rfl) (by kernel_rfl)

/-- precentorref20.Hear -/
def P12 (a0 : Rel) (a1 : Packet) (a2 : List PV) (a3 : Int) (a4 : Int) (Φ : List RV → Prop) : Prop :=
 Ln (List.map eItem a0.keep.l) (Ln (List.map eWin a0.win) (Ln (List.map I a0.top) (Ln (List.map eAsk a0.ask) (Ln (List.map lI a0.have_) (Ln (List.map I a0.lost) (Jn (fun v1 : Unit × Unit × Unit × Unit =>
 Jn (fun v3 : Unit × Unit × Unit × Unit =>
 Fk (a1.kind == 3)
 (Ix eWin (List.map eWin a0.win) a1.to_ fun x5 =>
 Ix I (List.map I a0.top) a1.to_ fun x6 =>
 ∃ x7 x8, Cl 39 [eWin x5, I x6] [.pv (I x7), .pv (I x8)] ∧
 Fk (x8 == 0)
 (Φ [.pv (eRel a0), .pv (B true)])
 (Fk (decide (x7 < a1.lo))
 (Φ [.pv (eRel a0), .pv (B true)])
 (Fk (decide ((w64 (a1.lo + a1.many)) ≤ x7))
 (Φ [.pv (eRel a0), .pv (B true)])
 (Ix eAsk (List.map eAsk a0.ask) a1.to_ fun x9 =>
 ∃ x10, Cl 41 [eAsk x9, I a0.now, I a4] [.pv (eAsk x10)] ∧
 ∃ x11, Cl 40 [eRel a0, I a1.to_, eAsk x10] [.pv (eRel x11)] ∧
 Φ [.pv (eRel x11), .pv (B true)]))))
 (Fk (a1.kind == 4)
 (∃ x12, Cl 42 [eRel a0, I a1.from_, I a1.top] [.pv (eRel x12)] ∧
 Ok (okNews 1 (List.map lI a0.have_)) (Sz 0 ((List.map lI a0.have_).length) 24 (
 Ix lI (List.map lI a0.have_) a1.from_ fun x13 =>
 ∃ x14, Cl 43 [.sl false (List.map I x13), .sl false (List.map I a1.l)] [.pv (.sl false (List.map I x14))] ∧
 Rx a1.from_ (0 + (List.map lI a0.have_).length) (
 Ld lI (List.map lI a0.have_) (0 + a1.from_.toNat) fun x15 =>
 Φ [.pv (.agg [I x12.me, I x12.now, I x12.keep.next, .sl false (List.map eItem x12.keep.l), .sl false (List.map eWin x12.win), .sl false (List.map I x12.top), .sl false (List.map eAsk x12.ask), .sl false ((List.map lI a0.have_).set (0 + a1.from_.toNat) (.sl false (List.map I x14))), .sl false (List.map I x12.lost), I x12.naks]), .pv (B true)]))))
 (∃ x16, Cl 42 [eRel a0, I a1.from_, I a1.item.seq] [.pv (eRel x16)] ∧
 Ix eWin (List.map eWin a0.win) a1.from_ fun x17 =>
 Ix I a2 a1.from_ fun x18 =>
 ∃ x19 x20, Cl 44 [eWin x17, eItem a1.item, I (w64 (x18 + a3))] [.pv (eWin x19), .pv (B x20)] ∧
 ∃ x21, Cl 45 [eRel x16, I a1.from_, eWin x19] [.pv (eRel x21)] ∧
 Φ [.pv (eRel x21), .pv (B true)]))) (fun j4 =>
 (fun j4 : Unit × Unit × Unit × Unit → Prop =>
 Fk (a1.kind == 3)
 (Fk (a1.to_ == a0.me)
 (∃ x22, Cl 38 [eRel a0, I a1.lo, I a1.many] [.pv (.sl false (List.map I x22))] ∧
 Jn (fun v23 : ((List PV) × Int × Unit) × Unit × Unit =>
 Φ [.pv (.agg [I a0.me, I a0.now, I a0.keep.next, .sl false (List.map eItem a0.keep.l), .sl false (List.map eWin a0.win), .sl false (List.map I a0.top), .sl false (List.map eAsk a0.ask), .sl false (List.map lI a0.have_), .sl false v23.1.1, I v23.1.2.1]), .pv (B true)]) (fun j24 =>
 (fun j24 : ((List PV) × Int × Unit) × Unit × Unit → Prop =>
 Fk (decide (a0.naks < 1000))
 (j24 ((List.map I x22, w64 (a0.naks + 1), ()), (), ()))
 (j24 ((List.map I x22, a0.naks, ()), (), ()))) (fun v => SmA (.bp 65576 0) ∧ SmA (.bp 65616 0) ∧ SmA (.pv (I a0.me)) ∧ SmA (.pv (I a0.now)) ∧ SmA (.pv (I a0.keep.next)) ∧ SmA (.pv (.sl false (List.map eItem a0.keep.l))) ∧ SmA (.pv (.sl false (List.map eWin a0.win))) ∧ SmA (.pv (.sl false (List.map I a0.top))) ∧ SmA (.pv (.sl false (List.map eAsk a0.ask))) ∧ SmA (.pv (.sl false (List.map lI a0.have_))) ∧ SmA (.pv (I 0)) ∧ SmA (.pv (I 0)) ∧ SmA (.pv (I 0)) ∧ SmA (.pv (.sl true [])) ∧ SmA (.pv (.sl true [])) ∧ SmA (.pv (.sl true [])) ∧ SmA (.pv (.sl true [])) ∧ SmA (.pv (.sl true [])) ∧ SmA (.pv (.sl true [])) ∧ SmA (.pv (I 0)) ∧ j24 v)))
 (j4 ((), (), (), ())))
 (j4 ((), (), (), ()))) (fun v => SmA (.pv (.sl false a2)) ∧ SmA (.pv (I a3)) ∧ SmA (.pv (I a4)) ∧ SmA (.bp 65576 0) ∧ SmA (.bp 65584 0) ∧ SmA (.bp 65616 0) ∧ SmA (.pv (I a1.from_)) ∧ SmA (.pv (I a0.me)) ∧ SmA (.pv (I a0.now)) ∧ SmA (.pv (I a0.keep.next)) ∧ SmA (.pv (.sl false (List.map eItem a0.keep.l))) ∧ SmA (.pv (.sl false (List.map eWin a0.win))) ∧ SmA (.pv (.sl false (List.map I a0.top))) ∧ SmA (.pv (.sl false (List.map eAsk a0.ask))) ∧ SmA (.pv (.sl false (List.map lI a0.have_))) ∧ SmA (.pv (.sl false (List.map I a0.lost))) ∧ SmA (.pv (I a0.naks)) ∧ SmA (.pv (I a1.kind)) ∧ SmA (.pv (I a1.from_)) ∧ SmA (.pv (I a1.item.kind)) ∧ SmA (.pv (I a1.item.seq)) ∧ SmA (.pv (I a1.item.epoch)) ∧ SmA (.pv (I a1.item.index)) ∧ SmA (.pv (I a1.item.total)) ∧ SmA (.pv (I a1.item.count)) ∧ SmA (.pv (.sl false (List.map I a1.item.l))) ∧ SmA (.pv (.sl false (List.map U8 a1.item.body))) ∧ SmA (.pv (I a1.to_)) ∧ SmA (.pv (I a1.lo)) ∧ SmA (.pv (I a1.many)) ∧ SmA (.pv (I a1.top)) ∧ SmA (.pv (.sl false (List.map I a1.l))) ∧ SmA (.pv (I 0)) ∧ SmA (.pv (I 0)) ∧ SmA (.pv (I 0)) ∧ SmA (.pv (.sl true [])) ∧ SmA (.pv (.sl true [])) ∧ SmA (.pv (.sl true [])) ∧ SmA (.pv (.sl true [])) ∧ SmA (.pv (.sl true [])) ∧ SmA (.pv (.sl true [])) ∧ SmA (.pv (I 0)) ∧ j4 v))) (fun j2 =>
 (fun j2 : Unit × Unit × Unit × Unit → Prop =>
 Ln (List.map I a1.item.l) (Ln (List.map U8 a1.item.body) (Ln (List.map I a1.l) (Fk (a1.from_ == a0.me)
 (Φ [.pv (eRel a0), .pv (B false)])
 (Fk (decide (((List.map eWin a0.win).length : Int) ≤ a1.from_))
 (Φ [.pv (eRel a0), .pv (B false)])
 (Fk (a1.kind == 3)
 (Fk (decide (((List.map eWin a0.win).length : Int) ≤ a1.to_))
 (Φ [.pv (eRel a0), .pv (B false)])
 (Fk (a1.kind == 4)
 (Fk (((List.map I a1.l).length : Int) != ((List.map eWin a0.win).length : Int))
 (Φ [.pv (eRel a0), .pv (B false)])
 (j2 ((), (), (), ())))
 (j2 ((), (), (), ()))))
 (Fk (a1.kind == 4)
 (Fk (((List.map I a1.l).length : Int) != ((List.map eWin a0.win).length : Int))
 (Φ [.pv (eRel a0), .pv (B false)])
 (j2 ((), (), (), ())))
 (j2 ((), (), (), ()))))))))) (fun v => SmA (.pv (.sl false a2)) ∧ SmA (.pv (I a3)) ∧ SmA (.pv (I a4)) ∧ SmA (.bp 65576 0) ∧ SmA (.bp 65584 0) ∧ SmA (.bp 65616 0) ∧ SmA (.pv (I a1.from_)) ∧ SmA (.pv (I a0.me)) ∧ SmA (.pv (I a0.now)) ∧ SmA (.pv (I a0.keep.next)) ∧ SmA (.pv (.sl false (List.map eItem a0.keep.l))) ∧ SmA (.pv (.sl false (List.map eWin a0.win))) ∧ SmA (.pv (.sl false (List.map I a0.top))) ∧ SmA (.pv (.sl false (List.map eAsk a0.ask))) ∧ SmA (.pv (.sl false (List.map lI a0.have_))) ∧ SmA (.pv (.sl false (List.map I a0.lost))) ∧ SmA (.pv (I a0.naks)) ∧ SmA (.pv (I a1.kind)) ∧ SmA (.pv (I a1.from_)) ∧ SmA (.pv (I a1.item.kind)) ∧ SmA (.pv (I a1.item.seq)) ∧ SmA (.pv (I a1.item.epoch)) ∧ SmA (.pv (I a1.item.index)) ∧ SmA (.pv (I a1.item.total)) ∧ SmA (.pv (I a1.item.count)) ∧ SmA (.pv (.sl false (List.map I a1.item.l))) ∧ SmA (.pv (.sl false (List.map U8 a1.item.body))) ∧ SmA (.pv (I a1.to_)) ∧ SmA (.pv (I a1.lo)) ∧ SmA (.pv (I a1.many)) ∧ SmA (.pv (I a1.top)) ∧ SmA (.pv (.sl false (List.map I a1.l))) ∧ SmA (.pv (I 0)) ∧ SmA (.pv (I 0)) ∧ SmA (.pv (I 0)) ∧ SmA (.pv (.sl true [])) ∧ SmA (.pv (.sl true [])) ∧ SmA (.pv (.sl true [])) ∧ SmA (.pv (.sl true [])) ∧ SmA (.pv (.sl true [])) ∧ SmA (.pv (.sl true [])) ∧ SmA (.pv (I 0)) ∧ j2 v))))))))
theorem t12 (a0 : Rel) (a1 : Packet) (a2 : List PV) (a3 : Int) (a4 : Int) {Φ : List RV → Prop} (h : P12 a0 a1 a2 a3 a4 Φ) : CtP Tryz.prog 12 [eRel a0, ePacket a1, .sl false a2, I a3, I a4] Φ :=
  ctP_by h 1000 [(1997, .lens [5]), (3004, .fork [(3020, .off), (3031, .off), (3009, .off)] []), (3009, .fork [(3031, .off), (3020, .off)] []), (3013, .fork [] [(3020, .off)]), (3020, .fork [(3031, .off)] []), (3024, .fork [] [(3031, .off)]), (3031, .fork [] []), (3997, .lens [6]), (5003, .fork [] [(5009, .off)]), (5009, .fork [] []), (5998, .join [.k 2 (.pv (.sl false a2)), .k 3 (.pv (I a3)), .k 4 (.pv (I a4)), .k 5 (.bp 65576 0), .k 6 (.bp 65584 0), .k 10 (.bp 65616 0), .k 13 (.pv (I a1.from_)), .box 65576 true [.k (.pv (I a0.me)), .k (.pv (I a0.now)), .k (.pv (I a0.keep.next)), .k (.pv (.sl false (List.map eItem a0.keep.l))), .k (.pv (.sl false (List.map eWin a0.win))), .k (.pv (.sl false (List.map I a0.top))), .k (.pv (.sl false (List.map eAsk a0.ask))), .k (.pv (.sl false (List.map lI a0.have_))), .k (.pv (.sl false (List.map I a0.lost))), .k (.pv (I a0.naks))], .box 65584 true [.k (.pv (I a1.kind)), .k (.pv (I a1.from_)), .k (.pv (I a1.item.kind)), .k (.pv (I a1.item.seq)), .k (.pv (I a1.item.epoch)), .k (.pv (I a1.item.index)), .k (.pv (I a1.item.total)), .k (.pv (I a1.item.count)), .k (.pv (.sl false (List.map I a1.item.l))), .k (.pv (.sl false (List.map U8 a1.item.body))), .k (.pv (I a1.to_)), .k (.pv (I a1.lo)), .k (.pv (I a1.many)), .k (.pv (I a1.top)), .k (.pv (.sl false (List.map I a1.l)))], .box 65616 true [.k (.pv (I 0)), .k (.pv (I 0)), .k (.pv (I 0)), .k (.pv (.sl true [])), .k (.pv (.sl true [])), .k (.pv (.sl true [])), .k (.pv (.sl true [])), .k (.pv (.sl true [])), .k (.pv (.sl true [])), .k (.pv (I 0))]]), (6005, .call [.pv (.ty (List Int) lI)]), (7002, .fork [] []), (9998, .join [.k 5 (.bp 65576 0), .k 10 (.bp 65616 0), .box 65576 true [.k (.pv (I a0.me)), .k (.pv (I a0.now)), .k (.pv (I a0.keep.next)), .k (.pv (.sl false (List.map eItem a0.keep.l))), .k (.pv (.sl false (List.map eWin a0.win))), .k (.pv (.sl false (List.map I a0.top))), .k (.pv (.sl false (List.map eAsk a0.ask))), .k (.pv (.sl false (List.map lI a0.have_))), .h .sl, .h (.int .i64)], .box 65616 true [.k (.pv (I 0)), .k (.pv (I 0)), .k (.pv (I 0)), .k (.pv (.sl true [])), .k (.pv (.sl true [])), .k (.pv (.sl true [])), .k (.pv (.sl true [])), .k (.pv (.sl true [])), .k (.pv (.sl true [])), .k (.pv (I 0))]]), (10002, .fork [] []), (10998, .join [.k 2 (.pv (.sl false a2)), .k 3 (.pv (I a3)), .k 4 (.pv (I a4)), .k 5 (.bp 65576 0), .k 6 (.bp 65584 0), .k 10 (.bp 65616 0), .k 13 (.pv (I a1.from_)), .box 65576 true [.k (.pv (I a0.me)), .k (.pv (I a0.now)), .k (.pv (I a0.keep.next)), .k (.pv (.sl false (List.map eItem a0.keep.l))), .k (.pv (.sl false (List.map eWin a0.win))), .k (.pv (.sl false (List.map I a0.top))), .k (.pv (.sl false (List.map eAsk a0.ask))), .k (.pv (.sl false (List.map lI a0.have_))), .k (.pv (.sl false (List.map I a0.lost))), .k (.pv (I a0.naks))], .box 65584 true [.k (.pv (I a1.kind)), .k (.pv (I a1.from_)), .k (.pv (I a1.item.kind)), .k (.pv (I a1.item.seq)), .k (.pv (I a1.item.epoch)), .k (.pv (I a1.item.index)), .k (.pv (I a1.item.total)), .k (.pv (I a1.item.count)), .k (.pv (.sl false (List.map I a1.item.l))), .k (.pv (.sl false (List.map U8 a1.item.body))), .k (.pv (I a1.to_)), .k (.pv (I a1.lo)), .k (.pv (I a1.many)), .k (.pv (I a1.top)), .k (.pv (.sl false (List.map I a1.l)))], .box 65616 true [.k (.pv (I 0)), .k (.pv (I 0)), .k (.pv (I 0)), .k (.pv (.sl true [])), .k (.pv (.sl true [])), .k (.pv (.sl true [])), .k (.pv (.sl true [])), .k (.pv (.sl true [])), .k (.pv (.sl true [])), .k (.pv (I 0))]]), (11004, .ix Win eWin), (11010, .ix Int I), (11012, .call [.pv (.int .i64), .pv (.int .i64)]), (12002, .fork [(12016, .off), (12008, .off)] []), (12008, .fork [(12016, .off)] []), (12016, .fork [] []), (14007, .ix Ask eAsk), (14012, .call [.pv (.ty Ask eAsk)]), (14013, .call [.pv (.ty Rel eRel)]), (15002, .fork [] []), (16004, .call [.pv (.ty Rel eRel)]), (17003, .app true false), (18005, .ix (List Int) lI), (18009, .call [.pv (.ty (List Int) lI)]), (18010, .ixr), (18011, .st (List Int) lI), (21005, .call [.pv (.ty Rel eRel)]), (22003, .ix Win eWin), (22009, .ix Int I), (22013, .call [.pv (.ty Win eWin), .pv .bool]), (23003, .call [.pv (.ty Rel eRel)])] mixed Tryz.func12 rfl (by kernel_rfl) (by kernel_rfl)

/-- precentorref08.Free -/
def P62 (a0 : Keep) (a1 : Int) (Φ : List RV → Prop) : Prop :=
 SmA (.pv (I a1)) ∧ SmA (.bp 65552 0) ∧ SmA (.bp 65568 0) ∧ SmA (.pv (I a0.next)) ∧ SmA (.pv (.sl false (List.map eItem a0.l))) ∧ SmA (.pv (I 0)) ∧ SmA (.pv (.sl true [])) ∧ Lo (fun (L2 : List PV × Int × Unit × Unit × Unit → Prop) (v1 : List PV × Int × Unit × Unit × Unit) =>
 Ln (List.map eItem a0.l) (Fk (decide (v1.2.1 < ((List.map eItem a0.l).length : Int)))
 (Jn (fun v3 : List PV × Int × Unit × Unit × Unit =>
 SmA (.pv (I a1)) ∧ SmA (.bp 65552 0) ∧ SmA (.bp 65568 0) ∧ SmA (.pv (I a0.next)) ∧ SmA (.pv (.sl false (List.map eItem a0.l))) ∧ SmA (.pv (I 0)) ∧ SmA (.pv (.sl true [])) ∧ L2 (v3.1, w64 (v3.2.1 + 1), (), (), ())) (fun j4 =>
 (fun j4 : List PV × Int × Unit × Unit × Unit → Prop =>
 Ix eItem (List.map eItem a0.l) v1.2.1 fun x5 =>
 Fk (decide (a1 < x5.seq))
 (Ix eItem (List.map eItem a0.l) v1.2.1 fun x6 =>
 Sz v1.1.length 1 96 (
 j4 (v1.1 ++ [eItem x6], v1.2.1, (), (), ())))
 (j4 (v1.1, v1.2.1, (), (), ()))) (fun v => SmA (.pv (I a1)) ∧ SmA (.bp 65552 0) ∧ SmA (.bp 65568 0) ∧ SmA (.pv (I a0.next)) ∧ SmA (.pv (.sl false (List.map eItem a0.l))) ∧ SmA (.pv (I 0)) ∧ SmA (.pv (.sl true [])) ∧ j4 v)))
 (Φ [.pv (.agg [I a0.next, .sl false v1.1])]))) ([], 0, (), (), ())
theorem t62 (a0 : Keep) (a1 : Int) {Φ : List RV → Prop} (h : P62 a0 a1 Φ) : CtP Tryz.prog 62 [eKeep a0, I a1] Φ :=
  ctP_by h 1000 [(3004, .fork [] []), (3997, .lens [2]), (3999, .loop [.k 1 (.pv (I a1)), .k 2 (.bp 65552 0), .k 4 (.bp 65568 0), .r 5 33 8, .c 6 (.int .i64), .box 65552 true [.k (.pv (I a0.next)), .k (.pv (.sl false (List.map eItem a0.l)))], .box 65568 true [.k (.pv (I 0)), .k (.pv (.sl true []))]]), (4998, .join [.k 1 (.pv (I a1)), .k 2 (.bp 65552 0), .k 4 (.bp 65568 0), .r 5 33 8, .c 6 (.int .i64), .box 65552 true [.k (.pv (I a0.next)), .k (.pv (.sl false (List.map eItem a0.l)))], .box 65568 true [.k (.pv (I 0)), .k (.pv (.sl true []))]]), (5003, .ix Item eItem), (5007, .fork [] []), (6004, .ix Item eItem), (6007, .app false false)] mixed Tryz.func62 rfl (by kernel_rfl) (by kernel_rfl)

/-- precentorref20.Free -/
def P17 (a0 : Rel) (a1 : List PV) (Φ : List RV → Prop) : Prop :=
 Ix I a1 a0.me fun x1 =>
 SmA (.bp 65552 0) ∧ SmA (.bp 65568 0) ∧ SmA (.pv (I a0.me)) ∧ SmA (.pv (I a0.now)) ∧ SmA (.pv (I a0.keep.next)) ∧ SmA (.pv (.sl false (List.map eItem a0.keep.l))) ∧ SmA (.pv (.sl false (List.map eWin a0.win))) ∧ SmA (.pv (.sl false (List.map I a0.top))) ∧ SmA (.pv (.sl false (List.map eAsk a0.ask))) ∧ SmA (.pv (.sl false (List.map lI a0.have_))) ∧ SmA (.pv (.sl false (List.map I a0.lost))) ∧ SmA (.pv (I a0.naks)) ∧ SmA (.pv (I 0)) ∧ SmA (.pv (I 0)) ∧ SmA (.pv (I 0)) ∧ SmA (.pv (.sl true [])) ∧ SmA (.pv (.sl true [])) ∧ SmA (.pv (.sl true [])) ∧ SmA (.pv (.sl true [])) ∧ SmA (.pv (.sl true [])) ∧ SmA (.pv (.sl true [])) ∧ SmA (.pv (I 0)) ∧ Lo (fun (L3 : Int × Int × Unit × Unit × Unit → Prop) (v2 : Int × Int × Unit × Unit × Unit) =>
 Ln (List.map eItem a0.keep.l) (Ln (List.map eWin a0.win) (Ln (List.map I a0.top) (Ln (List.map eAsk a0.ask) (Ln (List.map lI a0.have_) (Ln (List.map I a0.lost) (Fk (decide (v2.2.1 < ((List.map eWin a0.win).length : Int)))
 (Jn (fun v4 : Int × Int × Unit × Unit × Unit =>
 SmA (.bp 65552 0) ∧ SmA (.bp 65568 0) ∧ SmA (.pv (I a0.me)) ∧ SmA (.pv (I a0.now)) ∧ SmA (.pv (I a0.keep.next)) ∧ SmA (.pv (.sl false (List.map eItem a0.keep.l))) ∧ SmA (.pv (.sl false (List.map eWin a0.win))) ∧ SmA (.pv (.sl false (List.map I a0.top))) ∧ SmA (.pv (.sl false (List.map eAsk a0.ask))) ∧ SmA (.pv (.sl false (List.map lI a0.have_))) ∧ SmA (.pv (.sl false (List.map I a0.lost))) ∧ SmA (.pv (I a0.naks)) ∧ SmA (.pv (I 0)) ∧ SmA (.pv (I 0)) ∧ SmA (.pv (I 0)) ∧ SmA (.pv (.sl true [])) ∧ SmA (.pv (.sl true [])) ∧ SmA (.pv (.sl true [])) ∧ SmA (.pv (.sl true [])) ∧ SmA (.pv (.sl true [])) ∧ SmA (.pv (.sl true [])) ∧ SmA (.pv (I 0)) ∧ L3 (v4.1, w64 (v4.2.1 + 1), (), (), ())) (fun j5 =>
 (fun j5 : Int × Int × Unit × Unit × Unit → Prop =>
 Fk (v2.2.1 != a0.me)
 (Ix lI (List.map lI a0.have_) v2.2.1 fun x6 =>
 Ix I (List.map I x6) a0.me fun x7 =>
 Fk (decide (x7 < v2.1))
 (Ix lI (List.map lI a0.have_) v2.2.1 fun x8 =>
 Ix I (List.map I x8) a0.me fun x9 =>
 j5 (x9, v2.2.1, (), (), ()))
 (j5 (v2.1, v2.2.1, (), (), ())))
 (j5 (v2.1, v2.2.1, (), (), ()))) (fun v => SmA (.bp 65552 0) ∧ SmA (.bp 65568 0) ∧ SmA (.pv (I a0.me)) ∧ SmA (.pv (I a0.now)) ∧ SmA (.pv (I a0.keep.next)) ∧ SmA (.pv (.sl false (List.map eItem a0.keep.l))) ∧ SmA (.pv (.sl false (List.map eWin a0.win))) ∧ SmA (.pv (.sl false (List.map I a0.top))) ∧ SmA (.pv (.sl false (List.map eAsk a0.ask))) ∧ SmA (.pv (.sl false (List.map lI a0.have_))) ∧ SmA (.pv (.sl false (List.map I a0.lost))) ∧ SmA (.pv (I a0.naks)) ∧ SmA (.pv (I 0)) ∧ SmA (.pv (I 0)) ∧ SmA (.pv (I 0)) ∧ SmA (.pv (.sl true [])) ∧ SmA (.pv (.sl true [])) ∧ SmA (.pv (.sl true [])) ∧ SmA (.pv (.sl true [])) ∧ SmA (.pv (.sl true [])) ∧ SmA (.pv (.sl true [])) ∧ SmA (.pv (I 0)) ∧ j5 v)))
 (∃ x10, Cl 62 [eKeep a0.keep, I v2.1] [.pv (eKeep x10)] ∧
 SmA (.bp 65552 0) ∧ SmA (.bp 65568 0) ∧ SmA (.pv (I a0.me)) ∧ SmA (.pv (I a0.now)) ∧ SmA (.pv (.sl false (List.map eWin a0.win))) ∧ SmA (.pv (.sl false (List.map I a0.top))) ∧ SmA (.pv (.sl false (List.map eAsk a0.ask))) ∧ SmA (.pv (.sl false (List.map lI a0.have_))) ∧ SmA (.pv (.sl false (List.map I a0.lost))) ∧ SmA (.pv (I a0.naks)) ∧ SmA (.pv (I 0)) ∧ SmA (.pv (I 0)) ∧ SmA (.pv (I 0)) ∧ SmA (.pv (.sl true [])) ∧ SmA (.pv (.sl true [])) ∧ SmA (.pv (.sl true [])) ∧ SmA (.pv (.sl true [])) ∧ SmA (.pv (.sl true [])) ∧ SmA (.pv (.sl true [])) ∧ SmA (.pv (I 0)) ∧ Lo (fun (L12 : List PV × Int × (Int × (List PV) × Unit) × Unit × Unit → Prop) (v11 : List PV × Int × (Int × (List PV) × Unit) × Unit × Unit) =>
 Ln v11.2.2.1.2.1 (Ln (List.map eWin a0.win) (Ln (List.map I a0.top) (Ln (List.map eAsk a0.ask) (Ln (List.map lI a0.have_) (Ln (List.map I a0.lost) (Fk (decide (v11.2.1 < ((List.map I a0.lost).length : Int)))
 (Jn (fun v13 : List PV × Int × (Int × (List PV) × Unit) × Unit × Unit =>
 SmA (.bp 65552 0) ∧ SmA (.bp 65568 0) ∧ SmA (.pv (I a0.me)) ∧ SmA (.pv (I a0.now)) ∧ SmA (.pv (.sl false (List.map eWin a0.win))) ∧ SmA (.pv (.sl false (List.map I a0.top))) ∧ SmA (.pv (.sl false (List.map eAsk a0.ask))) ∧ SmA (.pv (.sl false (List.map lI a0.have_))) ∧ SmA (.pv (.sl false (List.map I a0.lost))) ∧ SmA (.pv (I a0.naks)) ∧ SmA (.pv (I 0)) ∧ SmA (.pv (I 0)) ∧ SmA (.pv (I 0)) ∧ SmA (.pv (.sl true [])) ∧ SmA (.pv (.sl true [])) ∧ SmA (.pv (.sl true [])) ∧ SmA (.pv (.sl true [])) ∧ SmA (.pv (.sl true [])) ∧ SmA (.pv (.sl true [])) ∧ SmA (.pv (I 0)) ∧ L12 (v13.1, w64 (v13.2.1 + 1), (v13.2.2.1.1, v13.2.2.1.2.1, ()), (), ())) (fun j14 =>
 (fun j14 : List PV × Int × (Int × (List PV) × Unit) × Unit × Unit → Prop =>
 Ix I (List.map I a0.lost) v11.2.1 fun x15 =>
 ∃ x16 x17, Cl 52 [.agg [I v11.2.2.1.1, .sl false v11.2.2.1.2.1], I x15] [.pv (eItem x16), .pv (B x17)] ∧
 Fk x17
 (Ix I (List.map I a0.lost) v11.2.1 fun x18 =>
 Sz v11.1.length 1 8 (
 j14 (v11.1 ++ [I x18], v11.2.1, (v11.2.2.1.1, v11.2.2.1.2.1, ()), (), ())))
 (j14 (v11.1, v11.2.1, (v11.2.2.1.1, v11.2.2.1.2.1, ()), (), ()))) (fun v => SmA (.bp 65552 0) ∧ SmA (.bp 65568 0) ∧ SmA (.pv (I a0.me)) ∧ SmA (.pv (I a0.now)) ∧ SmA (.pv (.sl false (List.map eWin a0.win))) ∧ SmA (.pv (.sl false (List.map I a0.top))) ∧ SmA (.pv (.sl false (List.map eAsk a0.ask))) ∧ SmA (.pv (.sl false (List.map lI a0.have_))) ∧ SmA (.pv (.sl false (List.map I a0.lost))) ∧ SmA (.pv (I a0.naks)) ∧ SmA (.pv (I 0)) ∧ SmA (.pv (I 0)) ∧ SmA (.pv (I 0)) ∧ SmA (.pv (.sl true [])) ∧ SmA (.pv (.sl true [])) ∧ SmA (.pv (.sl true [])) ∧ SmA (.pv (.sl true [])) ∧ SmA (.pv (.sl true [])) ∧ SmA (.pv (.sl true [])) ∧ SmA (.pv (I 0)) ∧ j14 v)))
 (Φ [.pv (.agg [I a0.me, I a0.now, I v11.2.2.1.1, .sl false v11.2.2.1.2.1, .sl false (List.map eWin a0.win), .sl false (List.map I a0.top), .sl false (List.map eAsk a0.ask), .sl false (List.map lI a0.have_), .sl false v11.1, I a0.naks])])))))))) ([], 0, (x10.next, List.map eItem x10.l, ()), (), ()))))))))) (x1, 0, (), (), ())
theorem t17 (a0 : Rel) (a1 : List PV) {Φ : List RV → Prop} (h : P17 a0 a1 Φ) : CtP Tryz.prog 17 [eRel a0, .sl false a1] Φ :=
  ctP_by h 1000 [(1003, .ix Int I), (3004, .fork [] []), (3997, .lens [2]), (3999, .loop [.k 2 (.bp 65552 0), .k 4 (.bp 65568 0), .c 5 (.int .i64), .c 6 (.int .i64), .box 65552 true [.k (.pv (I a0.me)), .k (.pv (I a0.now)), .k (.pv (I a0.keep.next)), .k (.pv (.sl false (List.map eItem a0.keep.l))), .k (.pv (.sl false (List.map eWin a0.win))), .k (.pv (.sl false (List.map I a0.top))), .k (.pv (.sl false (List.map eAsk a0.ask))), .k (.pv (.sl false (List.map lI a0.have_))), .k (.pv (.sl false (List.map I a0.lost))), .k (.pv (I a0.naks))], .box 65568 true [.k (.pv (I 0)), .k (.pv (I 0)), .k (.pv (I 0)), .k (.pv (.sl true [])), .k (.pv (.sl true [])), .k (.pv (.sl true [])), .k (.pv (.sl true [])), .k (.pv (.sl true [])), .k (.pv (.sl true [])), .k (.pv (I 0))]]), (4998, .join [.k 2 (.bp 65552 0), .k 4 (.bp 65568 0), .c 5 (.int .i64), .c 6 (.int .i64), .box 65552 true [.k (.pv (I a0.me)), .k (.pv (I a0.now)), .k (.pv (I a0.keep.next)), .k (.pv (.sl false (List.map eItem a0.keep.l))), .k (.pv (.sl false (List.map eWin a0.win))), .k (.pv (.sl false (List.map I a0.top))), .k (.pv (.sl false (List.map eAsk a0.ask))), .k (.pv (.sl false (List.map lI a0.have_))), .k (.pv (.sl false (List.map I a0.lost))), .k (.pv (I a0.naks))], .box 65568 true [.k (.pv (I 0)), .k (.pv (I 0)), .k (.pv (I 0)), .k (.pv (.sl true [])), .k (.pv (.sl true [])), .k (.pv (.sl true [])), .k (.pv (.sl true [])), .k (.pv (.sl true [])), .k (.pv (.sl true [])), .k (.pv (I 0))]]), (5004, .fork [] [(5016, .off)]), (5008, .ix (List Int) lI), (5012, .ix Int I), (5016, .fork [] []), (6003, .ix (List Int) lI), (6007, .ix Int I), (7003, .call [.pv (.ty Keep eKeep)]), (10004, .fork [] []), (10997, .lens [2]), (10999, .loop [.k 2 (.bp 65552 0), .k 4 (.bp 65568 0), .r 7 3 1, .c 8 (.int .i64), .box 65552 true [.k (.pv (I a0.me)), .k (.pv (I a0.now)), .h (.int .i64), .h .sl, .k (.pv (.sl false (List.map eWin a0.win))), .k (.pv (.sl false (List.map I a0.top))), .k (.pv (.sl false (List.map eAsk a0.ask))), .k (.pv (.sl false (List.map lI a0.have_))), .k (.pv (.sl false (List.map I a0.lost))), .k (.pv (I a0.naks))], .box 65568 true [.k (.pv (I 0)), .k (.pv (I 0)), .k (.pv (I 0)), .k (.pv (.sl true [])), .k (.pv (.sl true [])), .k (.pv (.sl true [])), .k (.pv (.sl true [])), .k (.pv (.sl true [])), .k (.pv (.sl true [])), .k (.pv (I 0))]]), (11998, .join [.k 2 (.bp 65552 0), .k 4 (.bp 65568 0), .r 7 3 1, .c 8 (.int .i64), .box 65552 true [.k (.pv (I a0.me)), .k (.pv (I a0.now)), .h (.int .i64), .h .sl, .k (.pv (.sl false (List.map eWin a0.win))), .k (.pv (.sl false (List.map I a0.top))), .k (.pv (.sl false (List.map eAsk a0.ask))), .k (.pv (.sl false (List.map lI a0.have_))), .k (.pv (.sl false (List.map I a0.lost))), .k (.pv (I a0.naks))], .box 65568 true [.k (.pv (I 0)), .k (.pv (I 0)), .k (.pv (I 0)), .k (.pv (.sl true [])), .k (.pv (.sl true [])), .k (.pv (.sl true [])), .k (.pv (.sl true [])), .k (.pv (.sl true [])), .k (.pv (.sl true [])), .k (.pv (I 0))]]), (12005, .ix Int I), (12007, .call [.pv (.ty Item eItem), .pv .bool]), (13000, .fork [] []), (14004, .ix Int I), (14007, .app false false)] mixed Tryz.func17 rfl (by kernel_rfl) (by kernel_rfl)

/-- precentorref10.Step -/
def P53 (a0 : Ask) (a1 : Int) (a2 : Int) (a3 : Bool) (Φ : List RV → Prop) : Prop :=
 Fk (!a3)
 (Φ [.pv (.agg [I 0]), .pv (B false)])
 (Fk (a0.due == 0)
 (Φ [.pv (.agg [I (w64 (a1 + 1))]), .pv (B false)])
 (Fk (decide (a0.due ≤ a1))
 (Φ [.pv (.agg [I (w64 (a1 + a2))]), .pv (B true)])
 (Φ [.pv (eAsk a0), .pv (B false)])))
theorem t53 (a0 : Ask) (a1 : Int) (a2 : Int) (a3 : Bool) {Φ : List RV → Prop} (h : P53 a0 a1 a2 a3 Φ) : CtP Tryz.prog 53 [eAsk a0, I a1, I a2, B a3] Φ :=
  ctP_by h 1000 [(1001, .fork [] []), (3002, .fork [] []), (5003, .fork [] [])] mixed Tryz.func53 rfl (by kernel_rfl) (by kernel_rfl)

/-- precentorref20.Tick -/
def P14 (a0 : Rel) (a1 : List PV) (a2 : Int) (a3 : Int) (Φ : List RV → Prop) : Prop :=
 Jn (fun v1 : (Int × Unit) × Unit × Unit =>
 ∃ x3, Cl 17 [.agg [I a0.me, I v1.1.1, I a0.keep.next, .sl false (List.map eItem a0.keep.l), .sl false (List.map eWin a0.win), .sl false (List.map I a0.top), .sl false (List.map eAsk a0.ask), .sl false (List.map lI a0.have_), .sl false (List.map I a0.lost), I 0], .sl false a1] [.pv (eRel x3)] ∧
 SmA (.pv (.sl false a1)) ∧ SmA (.pv (I a2)) ∧ SmA (.pv (I a3)) ∧ SmA (.bp 65568 0) ∧ SmA (.bp 65600 0) ∧ SmA (.pv (I 0)) ∧ SmA (.pv (I 0)) ∧ SmA (.pv (I 0)) ∧ SmA (.pv (.sl true [])) ∧ SmA (.pv (.sl true [])) ∧ SmA (.pv (.sl true [])) ∧ SmA (.pv (.sl true [])) ∧ SmA (.pv (.sl true [])) ∧ SmA (.pv (.sl true [])) ∧ SmA (.pv (I 0)) ∧ Lo (fun (L5 : List PV × Int × (Int × Int × Int × (List PV) × (List PV) × (List PV) × (List PV) × (List PV) × (List PV) × Int × Unit) × Unit × Unit → Prop) (v4 : List PV × Int × (Int × Int × Int × (List PV) × (List PV) × (List PV) × (List PV) × (List PV) × (List PV) × Int × Unit) × Unit × Unit) =>
 Ln v4.2.2.1.2.2.2.1 (Ln v4.2.2.1.2.2.2.2.1 (Ln v4.2.2.1.2.2.2.2.2.1 (Ln v4.2.2.1.2.2.2.2.2.2.1 (Ln v4.2.2.1.2.2.2.2.2.2.2.1 (Ln v4.2.2.1.2.2.2.2.2.2.2.2.1 (Fk (decide (v4.2.1 < (v4.2.2.1.2.2.2.2.2.2.2.2.1.length : Int)))
 (Ix I v4.2.2.1.2.2.2.2.2.2.2.2.1 v4.2.1 fun x6 =>
 ∃ x7 x8, Cl 52 [.agg [I v4.2.2.1.2.2.1, .sl false v4.2.2.1.2.2.2.1], I x6] [.pv (eItem x7), .pv (B x8)] ∧
 Sz v4.1.length 1 168 (
 SmA (.pv (.sl false a1)) ∧ SmA (.pv (I a2)) ∧ SmA (.pv (I a3)) ∧ SmA (.bp 65568 0) ∧ SmA (.bp 65600 0) ∧ SmA (.pv (I 0)) ∧ SmA (.pv (I 0)) ∧ SmA (.pv (I 0)) ∧ SmA (.pv (.sl true [])) ∧ SmA (.pv (.sl true [])) ∧ SmA (.pv (.sl true [])) ∧ SmA (.pv (.sl true [])) ∧ SmA (.pv (.sl true [])) ∧ SmA (.pv (.sl true [])) ∧ SmA (.pv (I 0)) ∧ L5 (v4.1 ++ [.agg [I 2, I v4.2.2.1.1, I x7.kind, I x7.seq, I x7.epoch, I x7.index, I x7.total, I x7.count, .sl false (List.map I x7.l), .sl false (List.map U8 x7.body), I 0, I 0, I 0, I 0, .sl false []]], w64 (v4.2.1 + 1), (v4.2.2.1.1, v4.2.2.1.2.1, v4.2.2.1.2.2.1, v4.2.2.1.2.2.2.1, v4.2.2.1.2.2.2.2.1, v4.2.2.1.2.2.2.2.2.1, v4.2.2.1.2.2.2.2.2.2.1, v4.2.2.1.2.2.2.2.2.2.2.1, v4.2.2.1.2.2.2.2.2.2.2.2.1, v4.2.2.1.2.2.2.2.2.2.2.2.2.1, ()), (), ())))
 (SmA (.pv (.sl false a1)) ∧ SmA (.pv (I a2)) ∧ SmA (.pv (I a3)) ∧ SmA (.bp 65568 0) ∧ SmA (.bp 65600 0) ∧ SmA (.pv (I 0)) ∧ SmA (.pv (I 0)) ∧ SmA (.pv (I 0)) ∧ SmA (.pv (.sl true [])) ∧ SmA (.pv (.sl true [])) ∧ SmA (.pv (.sl true [])) ∧ SmA (.pv (.sl true [])) ∧ SmA (.pv (.sl true [])) ∧ SmA (.pv (.sl true [])) ∧ SmA (.pv (I 0)) ∧ Lo (fun (L10 : List PV × Int × (Int × Int × Int × (List PV) × (List PV) × (List PV) × (List PV) × (List PV) × (List PV) × Int × Unit) × Unit × Unit → Prop) (v9 : List PV × Int × (Int × Int × Int × (List PV) × (List PV) × (List PV) × (List PV) × (List PV) × (List PV) × Int × Unit) × Unit × Unit) =>
 Ln v9.2.2.1.2.2.2.1 (Ln v9.2.2.1.2.2.2.2.1 (Ln v9.2.2.1.2.2.2.2.2.1 (Ln v9.2.2.1.2.2.2.2.2.2.1 (Ln v9.2.2.1.2.2.2.2.2.2.2.1 (Ln v9.2.2.1.2.2.2.2.2.2.2.2.1 (Fk (decide (v9.2.1 < (v9.2.2.1.2.2.2.2.1.length : Int)))
 (Jn (fun v11 : List PV × Int × (Int × Int × Int × (List PV) × (List PV) × (List PV) × (List PV) × (List PV) × (List PV) × Int × Unit) × Unit × Unit =>
 SmA (.pv (.sl false a1)) ∧ SmA (.pv (I a2)) ∧ SmA (.pv (I a3)) ∧ SmA (.bp 65568 0) ∧ SmA (.bp 65600 0) ∧ SmA (.pv (I 0)) ∧ SmA (.pv (I 0)) ∧ SmA (.pv (I 0)) ∧ SmA (.pv (.sl true [])) ∧ SmA (.pv (.sl true [])) ∧ SmA (.pv (.sl true [])) ∧ SmA (.pv (.sl true [])) ∧ SmA (.pv (.sl true [])) ∧ SmA (.pv (.sl true [])) ∧ SmA (.pv (I 0)) ∧ L10 (v11.1, w64 (v11.2.1 + 1), (v11.2.2.1.1, v11.2.2.1.2.1, v11.2.2.1.2.2.1, v11.2.2.1.2.2.2.1, v11.2.2.1.2.2.2.2.1, v11.2.2.1.2.2.2.2.2.1, v11.2.2.1.2.2.2.2.2.2.1, v11.2.2.1.2.2.2.2.2.2.2.1, v11.2.2.1.2.2.2.2.2.2.2.2.1, v11.2.2.1.2.2.2.2.2.2.2.2.2.1, ()), (), ())) (fun j12 =>
 (fun j12 : List PV × Int × (Int × Int × Int × (List PV) × (List PV) × (List PV) × (List PV) × (List PV) × (List PV) × Int × Unit) × Unit × Unit → Prop =>
 Fk (v9.2.1 == v9.2.2.1.1)
 (j12 (v9.1, v9.2.1, (v9.2.2.1.1, v9.2.2.1.2.1, v9.2.2.1.2.2.1, v9.2.2.1.2.2.2.1, v9.2.2.1.2.2.2.2.1, v9.2.2.1.2.2.2.2.2.1, v9.2.2.1.2.2.2.2.2.2.1, v9.2.2.1.2.2.2.2.2.2.2.1, v9.2.2.1.2.2.2.2.2.2.2.2.1, v9.2.2.1.2.2.2.2.2.2.2.2.2.1, ()), (), ()))
 (Ix eWin v9.2.2.1.2.2.2.2.1 v9.2.1 fun x13 =>
 Ix I v9.2.2.1.2.2.2.2.2.1 v9.2.1 fun x14 =>
 ∃ x15 x16, Cl 39 [eWin x13, I x14] [.pv (I x15), .pv (I x16)] ∧
 Ix eAsk v9.2.2.1.2.2.2.2.2.2.1 v9.2.1 fun x17 =>
 ∃ x18 x19, Cl 53 [eAsk x17, I v9.2.2.1.2.1, I a2, B (decide (0 < x16))] [.pv (eAsk x18), .pv (B x19)] ∧
 ∃ x20, Cl 40 [.agg [I v9.2.2.1.1, I v9.2.2.1.2.1, I v9.2.2.1.2.2.1, .sl false v9.2.2.1.2.2.2.1, .sl false v9.2.2.1.2.2.2.2.1, .sl false v9.2.2.1.2.2.2.2.2.1, .sl false v9.2.2.1.2.2.2.2.2.2.1, .sl false v9.2.2.1.2.2.2.2.2.2.2.1, .sl false v9.2.2.1.2.2.2.2.2.2.2.2.1, I v9.2.2.1.2.2.2.2.2.2.2.2.2.1], I v9.2.1, eAsk x18] [.pv (eRel x20)] ∧
 Fk x19
 (Sz v9.1.length 1 168 (
 j12 (v9.1 ++ [.agg [I 3, I x20.me, I 0, I 0, I 0, I 0, I 0, I 0, .sl false [], .sl false [], I v9.2.1, I x15, I x16, I 0, .sl false []]], v9.2.1, (x20.me, x20.now, x20.keep.next, List.map eItem x20.keep.l, List.map eWin x20.win, List.map I x20.top, List.map eAsk x20.ask, List.map lI x20.have_, List.map I x20.lost, x20.naks, ()), (), ())))
 (j12 (v9.1, v9.2.1, (x20.me, x20.now, x20.keep.next, List.map eItem x20.keep.l, List.map eWin x20.win, List.map I x20.top, List.map eAsk x20.ask, List.map lI x20.have_, List.map I x20.lost, x20.naks, ()), (), ())))) (fun v => SmA (.pv (.sl false a1)) ∧ SmA (.pv (I a2)) ∧ SmA (.pv (I a3)) ∧ SmA (.bp 65568 0) ∧ SmA (.bp 65600 0) ∧ SmA (.pv (I 0)) ∧ SmA (.pv (I 0)) ∧ SmA (.pv (I 0)) ∧ SmA (.pv (.sl true [])) ∧ SmA (.pv (.sl true [])) ∧ SmA (.pv (.sl true [])) ∧ SmA (.pv (.sl true [])) ∧ SmA (.pv (.sl true [])) ∧ SmA (.pv (.sl true [])) ∧ SmA (.pv (I 0)) ∧ j12 v)))
 (Jn (fun v21 : List PV × (Int × Int × Int × (List PV) × (List PV) × (List PV) × (List PV) × (List PV) × (List PV) × Int × Unit) × Unit × Unit =>
 Φ [.pv (.agg [I v21.2.1.1, I v21.2.1.2.1, I v21.2.1.2.2.1, .sl false v21.2.1.2.2.2.1, .sl false v21.2.1.2.2.2.2.1, .sl false v21.2.1.2.2.2.2.2.1, .sl false v21.2.1.2.2.2.2.2.2.1, .sl false v21.2.1.2.2.2.2.2.2.2.1, .sl false v21.2.1.2.2.2.2.2.2.2.2.1, I v21.2.1.2.2.2.2.2.2.2.2.2.1]), .fresh 35 15 v21.1]) (fun j22 =>
 (fun j22 : List PV × (Int × Int × Int × (List PV) × (List PV) × (List PV) × (List PV) × (List PV) × (List PV) × Int × Unit) × Unit × Unit → Prop =>
 Nz a3 (
 Fk ((Int.tmod v9.2.2.1.2.1 a3) == 0)
 (Ok (okNews 1 a1) (Sz 0 a1.length 8 (
 Sz v9.1.length 1 168 (
 j22 (v9.1 ++ [.agg [I 4, I v9.2.2.1.1, I 0, I 0, I 0, I 0, I 0, I 0, .sl false [], .sl false [], I 0, I 0, I 0, I (w64 (v9.2.2.1.2.2.1 - 1)), .sl false a1]], (v9.2.2.1.1, v9.2.2.1.2.1, v9.2.2.1.2.2.1, v9.2.2.1.2.2.2.1, v9.2.2.1.2.2.2.2.1, v9.2.2.1.2.2.2.2.2.1, v9.2.2.1.2.2.2.2.2.2.1, v9.2.2.1.2.2.2.2.2.2.2.1, v9.2.2.1.2.2.2.2.2.2.2.2.1, v9.2.2.1.2.2.2.2.2.2.2.2.2.1, ()), (), ())))))
 (j22 (v9.1, (v9.2.2.1.1, v9.2.2.1.2.1, v9.2.2.1.2.2.1, v9.2.2.1.2.2.2.1, v9.2.2.1.2.2.2.2.1, v9.2.2.1.2.2.2.2.2.1, v9.2.2.1.2.2.2.2.2.2.1, v9.2.2.1.2.2.2.2.2.2.2.1, v9.2.2.1.2.2.2.2.2.2.2.2.1, v9.2.2.1.2.2.2.2.2.2.2.2.2.1, ()), (), ())))) (fun v => SmA (.bp 65568 0) ∧ SmA (.bp 65600 0) ∧ SmA (.pv (I 0)) ∧ SmA (.pv (I 0)) ∧ SmA (.pv (I 0)) ∧ SmA (.pv (.sl true [])) ∧ SmA (.pv (.sl true [])) ∧ SmA (.pv (.sl true [])) ∧ SmA (.pv (.sl true [])) ∧ SmA (.pv (.sl true [])) ∧ SmA (.pv (.sl true [])) ∧ SmA (.pv (I 0)) ∧ j22 v)))))))))) (v4.1, 0, (v4.2.2.1.1, v4.2.2.1.2.1, v4.2.2.1.2.2.1, v4.2.2.1.2.2.2.1, v4.2.2.1.2.2.2.2.1, v4.2.2.1.2.2.2.2.2.1, v4.2.2.1.2.2.2.2.2.2.1, v4.2.2.1.2.2.2.2.2.2.2.1, [], v4.2.2.1.2.2.2.2.2.2.2.2.2.1, ()), (), ()))))))))) ([], 0, (x3.me, x3.now, x3.keep.next, List.map eItem x3.keep.l, List.map eWin x3.win, List.map I x3.top, List.map eAsk x3.ask, List.map lI x3.have_, List.map I x3.lost, x3.naks, ()), (), ())) (fun j2 =>
 (fun j2 : (Int × Unit) × Unit × Unit → Prop =>
 Fk (decide (a0.now < 4611686018427387904))
 (j2 ((w64 (a0.now + 1), ()), (), ()))
 (j2 ((a0.now, ()), (), ()))) (fun v => SmA (.pv (.sl false a1)) ∧ SmA (.pv (I a2)) ∧ SmA (.pv (I a3)) ∧ SmA (.bp 65568 0) ∧ SmA (.bp 65600 0) ∧ SmA (.pv (I a0.me)) ∧ SmA (.pv (I a0.keep.next)) ∧ SmA (.pv (.sl false (List.map eItem a0.keep.l))) ∧ SmA (.pv (.sl false (List.map eWin a0.win))) ∧ SmA (.pv (.sl false (List.map I a0.top))) ∧ SmA (.pv (.sl false (List.map eAsk a0.ask))) ∧ SmA (.pv (.sl false (List.map lI a0.have_))) ∧ SmA (.pv (.sl false (List.map I a0.lost))) ∧ SmA (.pv (I a0.naks)) ∧ SmA (.pv (I 0)) ∧ SmA (.pv (I 0)) ∧ SmA (.pv (I 0)) ∧ SmA (.pv (.sl true [])) ∧ SmA (.pv (.sl true [])) ∧ SmA (.pv (.sl true [])) ∧ SmA (.pv (.sl true [])) ∧ SmA (.pv (.sl true [])) ∧ SmA (.pv (.sl true [])) ∧ SmA (.pv (I 0)) ∧ j2 v))
theorem t14 (a0 : Rel) (a1 : List PV) (a2 : Int) (a3 : Int) {Φ : List RV → Prop} (h : P14 a0 a1 a2 a3 Φ) : CtP Tryz.prog 14 [eRel a0, .sl false a1, I a2, I a3] Φ :=
  ctP_by h 1000 [(1002, .fork [] []), (3998, .join [.k 1 (.pv (.sl false a1)), .k 2 (.pv (I a2)), .k 3 (.pv (I a3)), .k 4 (.bp 65568 0), .k 8 (.bp 65600 0), .box 65568 true [.k (.pv (I a0.me)), .h (.int .i64), .k (.pv (I a0.keep.next)), .k (.pv (.sl false (List.map eItem a0.keep.l))), .k (.pv (.sl false (List.map eWin a0.win))), .k (.pv (.sl false (List.map I a0.top))), .k (.pv (.sl false (List.map eAsk a0.ask))), .k (.pv (.sl false (List.map lI a0.have_))), .k (.pv (.sl false (List.map I a0.lost))), .k (.pv (I a0.naks))], .box 65600 true [.k (.pv (I 0)), .k (.pv (I 0)), .k (.pv (I 0)), .k (.pv (.sl true [])), .k (.pv (.sl true [])), .k (.pv (.sl true [])), .k (.pv (.sl true [])), .k (.pv (.sl true [])), .k (.pv (.sl true [])), .k (.pv (I 0))]]), (4002, .call [.pv (.ty Rel eRel)]), (7004, .fork [] []), (7997, .lens [4]), (7999, .loop [.k 1 (.pv (.sl false a1)), .k 2 (.pv (I a2)), .k 3 (.pv (I a3)), .k 4 (.bp 65568 0), .k 8 (.bp 65600 0), .r 10 35 15, .c 11 (.int .i64), .box 65568 true [.h (.int .i64), .h (.int .i64), .h (.int .i64), .h .sl, .h .sl, .h .sl, .h .sl, .h .sl, .h .sl, .h (.int .i64)], .box 65600 true [.k (.pv (I 0)), .k (.pv (I 0)), .k (.pv (I 0)), .k (.pv (.sl true [])), .k (.pv (.sl true [])), .k (.pv (.sl true [])), .k (.pv (.sl true [])), .k (.pv (.sl true [])), .k (.pv (.sl true [])), .k (.pv (I 0))]]), (9005, .ix Int I), (9007, .call [.pv (.ty Item eItem), .pv .bool]), (10004, .dull), (10006, .app false false), (13004, .fork [] []), (13997, .lens [4]), (13999, .loop [.k 1 (.pv (.sl false a1)), .k 2 (.pv (I a2)), .k 3 (.pv (I a3)), .k 4 (.bp 65568 0), .k 8 (.bp 65600 0), .r 10 35 15, .c 14 (.int .i64), .box 65568 true [.h (.int .i64), .h (.int .i64), .h (.int .i64), .h .sl, .h .sl, .h .sl, .h .sl, .h .sl, .h .sl, .h (.int .i64)], .box 65600 true [.k (.pv (I 0)), .k (.pv (I 0)), .k (.pv (I 0)), .k (.pv (.sl true [])), .k (.pv (.sl true [])), .k (.pv (.sl true [])), .k (.pv (.sl true [])), .k (.pv (.sl true [])), .k (.pv (.sl true [])), .k (.pv (I 0))]]), (14998, .join [.k 1 (.pv (.sl false a1)), .k 2 (.pv (I a2)), .k 3 (.pv (I a3)), .k 4 (.bp 65568 0), .k 8 (.bp 65600 0), .r 10 35 15, .c 14 (.int .i64), .box 65568 true [.h (.int .i64), .h (.int .i64), .h (.int .i64), .h .sl, .h .sl, .h .sl, .h .sl, .h .sl, .h .sl, .h (.int .i64)], .box 65600 true [.k (.pv (I 0)), .k (.pv (I 0)), .k (.pv (I 0)), .k (.pv (.sl true [])), .k (.pv (.sl true [])), .k (.pv (.sl true [])), .k (.pv (.sl true [])), .k (.pv (.sl true [])), .k (.pv (.sl true [])), .k (.pv (I 0))]]), (15003, .fork [] []), (16003, .ix Win eWin), (16008, .ix Int I), (16010, .call [.pv (.int .i64), .pv (.int .i64)]), (17003, .ix Ask eAsk), (17010, .call [.pv (.ty Ask eAsk), .pv .bool]), (18003, .call [.pv (.ty Rel eRel)]), (19000, .fork [] []), (20006, .dull), (20008, .app false false), (21003, .div), (21004, .fork [] []), (22009, .app true false), (22010, .frz), (22012, .app false false), (23998, .join [.k 4 (.bp 65568 0), .k 8 (.bp 65600 0), .r 10 35 15, .box 65568 true [.h (.int .i64), .h (.int .i64), .h (.int .i64), .h .sl, .h .sl, .h .sl, .h .sl, .h .sl, .h .sl, .h (.int .i64)], .box 65600 true [.k (.pv (I 0)), .k (.pv (I 0)), .k (.pv (I 0)), .k (.pv (.sl true [])), .k (.pv (.sl true [])), .k (.pv (.sl true [])), .k (.pv (.sl true [])), .k (.pv (.sl true [])), .k (.pv (.sl true [])), .k (.pv (I 0))]])] mixed Tryz.func14 rfl (by kernel_rfl) (by kernel_rfl)

/-- precentorref08.Items -/
def P105 (a0 : List PV) (a1 : List PV) (Φ : List RV → Prop) : Prop :=
 Ln a0 (Ln a1 (Fk ((a0.length : Int) != (a1.length : Int))
 (Φ [.pv (B false)])
 (SmA (.pv (.sl false a0)) ∧ SmA (.pv (.sl false a1)) ∧ Lo (fun (L2 : Int × Unit → Prop) (v1 : Int × Unit) =>
 Fk (decide (v1.1 < (a0.length : Int)))
 (Ix eItem a0 v1.1 fun x3 =>
 Ix eItem a1 v1.1 fun x4 =>
 ∃ x5, Cl 30 [eItem x3, eItem x4] [.pv (B x5)] ∧
 Fk (!x5)
 (Φ [.pv (B false)])
 (SmA (.pv (.sl false a0)) ∧ SmA (.pv (.sl false a1)) ∧ L2 (w64 (v1.1 + 1), ())))
 (Φ [.pv (B true)])) (0, ()))))
theorem t105 (a0 : List PV) (a1 : List PV) {Φ : List RV → Prop} (h : P105 a0 a1 Φ) : CtP Tryz.prog 105 [.sl false a0, .sl false a1] Φ :=
  ctP_by h 1000 [(1004, .fork [] []), (1997, .lens [0, 1]), (4003, .fork [] []), (4999, .loop [.k 0 (.pv (.sl false a0)), .k 1 (.pv (.sl false a1)), .c 5 (.int .i64)]), (6002, .ix Item eItem), (6006, .ix Item eItem), (6008, .call [.pv .bool]), (7001, .fork [] [])] mixed Tryz.func105 rfl (by kernel_rfl) (by kernel_rfl)

/-- precentorref08.Same -/
def P54 (a0 : Keep) (a1 : Keep) (Φ : List RV → Prop) : Prop :=
 ∃ x1, Cl 105 [.sl false (List.map eItem a0.l), .sl false (List.map eItem a1.l)] [.pv (B x1)] ∧
 Fk x1
 (Φ [.pv (B (a0.next == a1.next))])
 (Φ [.pv (B false)])
theorem t54 (a0 : Keep) (a1 : Keep) {Φ : List RV → Prop} (h : P54 a0 a1 Φ) : CtP Tryz.prog 54 [eKeep a0, eKeep a1] Φ :=
  ctP_by h 1000 [(1004, .call [.pv .bool]), (2001, .fork [] [])] mixed Tryz.func54 rfl (by kernel_rfl) (by kernel_rfl)

/-- precentorref07.Rows -/
def P56 (a0 : List PV) (a1 : List PV) (Φ : List RV → Prop) : Prop :=
 Ln a0 (Ln a1 (Fk ((a0.length : Int) != (a1.length : Int))
 (Φ [.pv (B false)])
 (SmA (.pv (.sl false a0)) ∧ SmA (.pv (.sl false a1)) ∧ Lo (fun (L2 : Int × Unit → Prop) (v1 : Int × Unit) =>
 Fk (decide (v1.1 < (a0.length : Int)))
 (Ix lI a0 v1.1 fun x3 =>
 Ix lI a1 v1.1 fun x4 =>
 ∃ x5, Cl 55 [.sl false (List.map I x3), .sl false (List.map I x4)] [.pv (B x5)] ∧
 Fk (!x5)
 (Φ [.pv (B false)])
 (SmA (.pv (.sl false a0)) ∧ SmA (.pv (.sl false a1)) ∧ L2 (w64 (v1.1 + 1), ())))
 (Φ [.pv (B true)])) (0, ()))))
theorem t56 (a0 : List PV) (a1 : List PV) {Φ : List RV → Prop} (h : P56 a0 a1 Φ) : CtP Tryz.prog 56 [.sl false a0, .sl false a1] Φ :=
  ctP_by h 1000 [(1004, .fork [] []), (1997, .lens [0, 1]), (4003, .fork [] []), (4999, .loop [.k 0 (.pv (.sl false a0)), .k 1 (.pv (.sl false a1)), .c 5 (.int .i64)]), (6002, .ix (List Int) lI), (6006, .ix (List Int) lI), (6008, .call [.pv .bool]), (7001, .fork [] [])] mixed Tryz.func56 rfl (by kernel_rfl) (by kernel_rfl)

/-- precentorref09.Same -/
def P57 (a0 : Win) (a1 : Win) (Φ : List RV → Prop) : Prop :=
 ∃ x1, Cl 105 [.sl false (List.map eItem a0.l), .sl false (List.map eItem a1.l)] [.pv (B x1)] ∧
 Fk x1
 (Φ [.pv (B (a0.next == a1.next))])
 (Φ [.pv (B false)])
theorem t57 (a0 : Win) (a1 : Win) {Φ : List RV → Prop} (h : P57 a0 a1 Φ) : CtP Tryz.prog 57 [eWin a0, eWin a1] Φ :=
  ctP_by h 1000 [(1004, .call [.pv .bool]), (2001, .fork [] [])] mixed Tryz.func57 rfl (by kernel_rfl) (by kernel_rfl)

/-- precentorref20.Same -/
def P15 (a0 : Rel) (a1 : Rel) (Φ : List RV → Prop) : Prop :=
 ∃ x1, Cl 54 [eKeep a0.keep, eKeep a1.keep] [.pv (B x1)] ∧
 ∃ x2, Cl 55 [.sl false (List.map I a0.top), .sl false (List.map I a1.top)] [.pv (B x2)] ∧
 ∃ x3, Cl 55 [.sl false (List.map I a0.lost), .sl false (List.map I a1.lost)] [.pv (B x3)] ∧
 ∃ x4, Cl 56 [.sl false (List.map lI a0.have_), .sl false (List.map lI a1.have_)] [.pv (B x4)] ∧
 Ln (List.map eItem a0.keep.l) (Ln (List.map eWin a0.win) (Ln (List.map I a0.top) (Ln (List.map eAsk a0.ask) (Ln (List.map lI a0.have_) (Ln (List.map I a0.lost) (Ln (List.map eItem a1.keep.l) (Ln (List.map eWin a1.win) (Ln (List.map I a1.top) (Ln (List.map eAsk a1.ask) (Ln (List.map lI a1.have_) (Ln (List.map I a1.lost) (Fk (!x1)
 (Φ [.pv (B false)])
 (Fk (!x2)
 (Φ [.pv (B false)])
 (Fk (!x3)
 (Φ [.pv (B false)])
 (Fk (!x4)
 (Φ [.pv (B false)])
 (Fk (a0.me != a1.me)
 (Φ [.pv (B false)])
 (Fk (a0.now != a1.now)
 (Φ [.pv (B false)])
 (Fk (a0.naks != a1.naks)
 (Φ [.pv (B false)])
 (Fk (((List.map eWin a0.win).length : Int) != ((List.map eWin a1.win).length : Int))
 (Φ [.pv (B false)])
 (Fk (((List.map eAsk a0.ask).length : Int) != ((List.map eAsk a1.ask).length : Int))
 (Φ [.pv (B false)])
 (SmA (.bp 65552 0) ∧ SmA (.bp 65560 0) ∧ SmA (.pv (I a0.me)) ∧ SmA (.pv (I a0.now)) ∧ SmA (.pv (I a0.keep.next)) ∧ SmA (.pv (.sl false (List.map eItem a0.keep.l))) ∧ SmA (.pv (.sl false (List.map eWin a0.win))) ∧ SmA (.pv (.sl false (List.map I a0.top))) ∧ SmA (.pv (.sl false (List.map eAsk a0.ask))) ∧ SmA (.pv (.sl false (List.map lI a0.have_))) ∧ SmA (.pv (.sl false (List.map I a0.lost))) ∧ SmA (.pv (I a0.naks)) ∧ SmA (.pv (I a1.me)) ∧ SmA (.pv (I a1.now)) ∧ SmA (.pv (I a1.keep.next)) ∧ SmA (.pv (.sl false (List.map eItem a1.keep.l))) ∧ SmA (.pv (.sl false (List.map eWin a1.win))) ∧ SmA (.pv (.sl false (List.map I a1.top))) ∧ SmA (.pv (.sl false (List.map eAsk a1.ask))) ∧ SmA (.pv (.sl false (List.map lI a1.have_))) ∧ SmA (.pv (.sl false (List.map I a1.lost))) ∧ SmA (.pv (I a1.naks)) ∧ Lo (fun (L6 : Int × Unit × Unit × Unit → Prop) (v5 : Int × Unit × Unit × Unit) =>
 Fk (decide (v5.1 < ((List.map eWin a0.win).length : Int)))
 (Ix eWin (List.map eWin a0.win) v5.1 fun x7 =>
 Ix eWin (List.map eWin a1.win) v5.1 fun x8 =>
 ∃ x9, Cl 57 [eWin x7, eWin x8] [.pv (B x9)] ∧
 Fk (!x9)
 (Φ [.pv (B false)])
 (SmA (.bp 65552 0) ∧ SmA (.bp 65560 0) ∧ SmA (.pv (I a0.me)) ∧ SmA (.pv (I a0.now)) ∧ SmA (.pv (I a0.keep.next)) ∧ SmA (.pv (.sl false (List.map eItem a0.keep.l))) ∧ SmA (.pv (.sl false (List.map eWin a0.win))) ∧ SmA (.pv (.sl false (List.map I a0.top))) ∧ SmA (.pv (.sl false (List.map eAsk a0.ask))) ∧ SmA (.pv (.sl false (List.map lI a0.have_))) ∧ SmA (.pv (.sl false (List.map I a0.lost))) ∧ SmA (.pv (I a0.naks)) ∧ SmA (.pv (I a1.me)) ∧ SmA (.pv (I a1.now)) ∧ SmA (.pv (I a1.keep.next)) ∧ SmA (.pv (.sl false (List.map eItem a1.keep.l))) ∧ SmA (.pv (.sl false (List.map eWin a1.win))) ∧ SmA (.pv (.sl false (List.map I a1.top))) ∧ SmA (.pv (.sl false (List.map eAsk a1.ask))) ∧ SmA (.pv (.sl false (List.map lI a1.have_))) ∧ SmA (.pv (.sl false (List.map I a1.lost))) ∧ SmA (.pv (I a1.naks)) ∧ L6 (w64 (v5.1 + 1), (), (), ())))
 (SmA (.bp 65552 0) ∧ SmA (.bp 65560 0) ∧ SmA (.pv (I a0.me)) ∧ SmA (.pv (I a0.now)) ∧ SmA (.pv (I a0.keep.next)) ∧ SmA (.pv (.sl false (List.map eItem a0.keep.l))) ∧ SmA (.pv (.sl false (List.map eWin a0.win))) ∧ SmA (.pv (.sl false (List.map I a0.top))) ∧ SmA (.pv (.sl false (List.map eAsk a0.ask))) ∧ SmA (.pv (.sl false (List.map lI a0.have_))) ∧ SmA (.pv (.sl false (List.map I a0.lost))) ∧ SmA (.pv (I a0.naks)) ∧ SmA (.pv (I a1.me)) ∧ SmA (.pv (I a1.now)) ∧ SmA (.pv (I a1.keep.next)) ∧ SmA (.pv (.sl false (List.map eItem a1.keep.l))) ∧ SmA (.pv (.sl false (List.map eWin a1.win))) ∧ SmA (.pv (.sl false (List.map I a1.top))) ∧ SmA (.pv (.sl false (List.map eAsk a1.ask))) ∧ SmA (.pv (.sl false (List.map lI a1.have_))) ∧ SmA (.pv (.sl false (List.map I a1.lost))) ∧ SmA (.pv (I a1.naks)) ∧ Lo (fun (L11 : Int × Unit × Unit × Unit → Prop) (v10 : Int × Unit × Unit × Unit) =>
 Fk (decide (v10.1 < ((List.map eAsk a0.ask).length : Int)))
 (Ix eAsk (List.map eAsk a0.ask) v10.1 fun x12 =>
 Ix eAsk (List.map eAsk a1.ask) v10.1 fun x13 =>
 Fk (x12.due != x13.due)
 (Φ [.pv (B false)])
 (SmA (.bp 65552 0) ∧ SmA (.bp 65560 0) ∧ SmA (.pv (I a0.me)) ∧ SmA (.pv (I a0.now)) ∧ SmA (.pv (I a0.keep.next)) ∧ SmA (.pv (.sl false (List.map eItem a0.keep.l))) ∧ SmA (.pv (.sl false (List.map eWin a0.win))) ∧ SmA (.pv (.sl false (List.map I a0.top))) ∧ SmA (.pv (.sl false (List.map eAsk a0.ask))) ∧ SmA (.pv (.sl false (List.map lI a0.have_))) ∧ SmA (.pv (.sl false (List.map I a0.lost))) ∧ SmA (.pv (I a0.naks)) ∧ SmA (.pv (I a1.me)) ∧ SmA (.pv (I a1.now)) ∧ SmA (.pv (I a1.keep.next)) ∧ SmA (.pv (.sl false (List.map eItem a1.keep.l))) ∧ SmA (.pv (.sl false (List.map eWin a1.win))) ∧ SmA (.pv (.sl false (List.map I a1.top))) ∧ SmA (.pv (.sl false (List.map eAsk a1.ask))) ∧ SmA (.pv (.sl false (List.map lI a1.have_))) ∧ SmA (.pv (.sl false (List.map I a1.lost))) ∧ SmA (.pv (I a1.naks)) ∧ L11 (w64 (v10.1 + 1), (), (), ())))
 (Φ [.pv (B true)])) (0, (), (), ()))) (0, (), (), ()))))))))))))))))))))))
theorem t15 (a0 : Rel) (a1 : Rel) {Φ : List RV → Prop} (h : P15 a0 a1 Φ) : CtP Tryz.prog 15 [eRel a0, eRel a1] Φ :=
  ctP_by h 1000 [(1004, .call [.pv .bool]), (2004, .call [.pv .bool]), (3004, .call [.pv .bool]), (4004, .call [.pv .bool]), (5002, .fork [(5010, .off), (5014, .off), (5021, .off), (5028, .off), (5035, .off), (5044, .off), (5052, .off), (5006, .off)] []), (5006, .fork [(5014, .off), (5021, .off), (5028, .off), (5035, .off), (5044, .off), (5052, .off), (5010, .off)] []), (5010, .fork [(5021, .off), (5028, .off), (5035, .off), (5044, .off), (5052, .off), (5014, .off)] []), (5014, .fork [(5028, .off), (5035, .off), (5044, .off), (5052, .off), (5021, .off)] []), (5021, .fork [(5035, .off), (5044, .off), (5052, .off), (5028, .off)] []), (5028, .fork [(5044, .off), (5052, .off), (5035, .off)] []), (5035, .fork [(5052, .off), (5044, .off)] []), (5044, .fork [(5052, .off)] []), (5052, .fork [] []), (5997, .lens [2, 3]), (8004, .fork [] []), (8999, .loop [.k 2 (.bp 65552 0), .k 3 (.bp 65560 0), .c 9 (.int .i64), .box 65552 true [.k (.pv (I a0.me)), .k (.pv (I a0.now)), .k (.pv (I a0.keep.next)), .k (.pv (.sl false (List.map eItem a0.keep.l))), .k (.pv (.sl false (List.map eWin a0.win))), .k (.pv (.sl false (List.map I a0.top))), .k (.pv (.sl false (List.map eAsk a0.ask))), .k (.pv (.sl false (List.map lI a0.have_))), .k (.pv (.sl false (List.map I a0.lost))), .k (.pv (I a0.naks))], .box 65560 true [.k (.pv (I a1.me)), .k (.pv (I a1.now)), .k (.pv (I a1.keep.next)), .k (.pv (.sl false (List.map eItem a1.keep.l))), .k (.pv (.sl false (List.map eWin a1.win))), .k (.pv (.sl false (List.map I a1.top))), .k (.pv (.sl false (List.map eAsk a1.ask))), .k (.pv (.sl false (List.map lI a1.have_))), .k (.pv (.sl false (List.map I a1.lost))), .k (.pv (I a1.naks))]]), (10003, .ix Win eWin), (10008, .ix Win eWin), (10010, .call [.pv .bool]), (11001, .fork [] []), (14004, .fork [] []), (14999, .loop [.k 2 (.bp 65552 0), .k 3 (.bp 65560 0), .c 11 (.int .i64), .box 65552 true [.k (.pv (I a0.me)), .k (.pv (I a0.now)), .k (.pv (I a0.keep.next)), .k (.pv (.sl false (List.map eItem a0.keep.l))), .k (.pv (.sl false (List.map eWin a0.win))), .k (.pv (.sl false (List.map I a0.top))), .k (.pv (.sl false (List.map eAsk a0.ask))), .k (.pv (.sl false (List.map lI a0.have_))), .k (.pv (.sl false (List.map I a0.lost))), .k (.pv (I a0.naks))], .box 65560 true [.k (.pv (I a1.me)), .k (.pv (I a1.now)), .k (.pv (I a1.keep.next)), .k (.pv (.sl false (List.map eItem a1.keep.l))), .k (.pv (.sl false (List.map eWin a1.win))), .k (.pv (.sl false (List.map I a1.top))), .k (.pv (.sl false (List.map eAsk a1.ask))), .k (.pv (.sl false (List.map lI a1.have_))), .k (.pv (.sl false (List.map I a1.lost))), .k (.pv (I a1.naks))]]), (16003, .ix Ask eAsk), (16009, .ix Ask eAsk), (16012, .fork [] [])] mixed Tryz.func15 rfl (by kernel_rfl) (by kernel_rfl)

/-- precentorref04.Same -/
def P63 (a0 : Packet) (a1 : Packet) (Φ : List RV → Prop) : Prop :=
 ∃ x1, Cl 30 [eItem a0.item, eItem a1.item] [.pv (B x1)] ∧
 ∃ x2, Cl 55 [.sl false (List.map I a0.l), .sl false (List.map I a1.l)] [.pv (B x2)] ∧
 Fk x1
 (Fk x2
 (Fk (a0.kind == a1.kind)
 (Fk (a0.from_ == a1.from_)
 (Fk (a0.to_ == a1.to_)
 (Fk (a0.lo == a1.lo)
 (Fk (a0.many == a1.many)
 (Φ [.pv (B (a0.top == a1.top))])
 (Φ [.pv (B false)]))
 (Φ [.pv (B false)]))
 (Φ [.pv (B false)]))
 (Φ [.pv (B false)]))
 (Φ [.pv (B false)]))
 (Φ [.pv (B false)]))
 (Φ [.pv (B false)])
theorem t63 (a0 : Packet) (a1 : Packet) {Φ : List RV → Prop} (h : P63 a0 a1 Φ) : CtP Tryz.prog 63 [ePacket a0, ePacket a1] Φ :=
  ctP_by h 1000 [(1004, .call [.pv .bool]), (2004, .call [.pv .bool]), (3001, .fork [] [(3004, .off), (3011, .off), (3018, .off), (3025, .off), (3032, .off), (3039, .off)]), (3004, .fork [] [(3011, .off), (3018, .off), (3025, .off), (3032, .off), (3039, .off)]), (3011, .fork [] [(3018, .off), (3025, .off), (3032, .off), (3039, .off)]), (3018, .fork [] [(3025, .off), (3032, .off), (3039, .off)]), (3025, .fork [] [(3032, .off), (3039, .off)]), (3032, .fork [] [(3039, .off)]), (3039, .fork [] [])] mixed Tryz.func63 rfl (by kernel_rfl) (by kernel_rfl)

/-- precentorref20.Packets -/
def P18 (a0 : List PV) (a1 : List PV) (Φ : List RV → Prop) : Prop :=
 Ln a0 (Ln a1 (Fk ((a0.length : Int) != (a1.length : Int))
 (Φ [.pv (B false)])
 (SmA (.pv (.sl false a0)) ∧ SmA (.pv (.sl false a1)) ∧ Lo (fun (L2 : Int × Unit → Prop) (v1 : Int × Unit) =>
 Fk (decide (v1.1 < (a0.length : Int)))
 (Ix ePacket a0 v1.1 fun x3 =>
 Ix ePacket a1 v1.1 fun x4 =>
 ∃ x5, Cl 63 [ePacket x3, ePacket x4] [.pv (B x5)] ∧
 Fk (!x5)
 (Φ [.pv (B false)])
 (SmA (.pv (.sl false a0)) ∧ SmA (.pv (.sl false a1)) ∧ L2 (w64 (v1.1 + 1), ())))
 (Φ [.pv (B true)])) (0, ()))))
theorem t18 (a0 : List PV) (a1 : List PV) {Φ : List RV → Prop} (h : P18 a0 a1 Φ) : CtP Tryz.prog 18 [.sl false a0, .sl false a1] Φ :=
  ctP_by h 1000 [(1004, .fork [] []), (1997, .lens [0, 1]), (4003, .fork [] []), (4999, .loop [.k 0 (.pv (.sl false a0)), .k 1 (.pv (.sl false a1)), .c 5 (.int .i64)]), (6002, .ix Packet ePacket), (6006, .ix Packet ePacket), (6008, .call [.pv .bool]), (7001, .fork [] [])] mixed Tryz.func18 rfl (by kernel_rfl) (by kernel_rfl)

/-- precentorlaw20.RelHears -/
def P3 (a0 : RelHearsIn) (Φ : List RV → Prop) : Prop :=
 ∃ x1, Cl 5 [] [.pv (B x1)] ∧
 ∃ x2, Cl 6 [eRel a0.r] [.pv (B x2)] ∧
 Fk (!x2)
 (Φ [.pv (B x1)])
 (∃ x3, Cl 7 [eRel a0.r, I a0.n] [.pv (B x3)] ∧
 Fk (!x3)
 (Φ [.pv (B x1)])
 (∃ x4, Cl 8 [ePacket a0.p] [.pv (B x4)] ∧
 Fk (!x4)
 (Φ [.pv (B x1)])
 (∃ x5, Cl 9 [ePacket a0.p] [.pv (B x5)] ∧
 Fk (!x5)
 (Φ [.pv (B x1)])
 (∃ x6, Cl 10 [.sl false (List.map I a0.done), I a0.n] [.pv (B x6)] ∧
 Fk (!x6)
 (Φ [.pv (B x1)])
 (Nz 65 (
 Nz 1000 (
 Nz 1000 (
 ∃ x7 x8, Cl 11 [eRel a0.r, ePacket a0.p, .sl false (List.map I a0.done), I (Int.tmod (w64 (a0.buf.toNat : Int)) 65), I (w64 (1 + (Int.tmod (w64 (a0.wait.toNat : Int)) 1000)))] [.pv (eRel x7), .pv (B x8)] ∧
 ∃ x9 x10, Cl 12 [eRel a0.r, ePacket a0.p, .sl false (List.map I a0.done), I (Int.tmod (w64 (a0.buf.toNat : Int)) 65), I (w64 (1 + (Int.tmod (w64 (a0.wait.toNat : Int)) 1000)))] [.pv (eRel x9), .pv (B x10)] ∧
 ∃ x11 x12, Cl 13 [eRel a0.r, .sl false (List.map I a0.done), I (w64 (1 + (Int.tmod (w64 (a0.wait.toNat : Int)) 1000))), I (w64 (1 + (Int.tmod (w64 (a0.every.toNat : Int)) 1000)))] [.pv (eRel x11), .pv (.sl false (List.map ePacket x12))] ∧
 ∃ x13 x14, Cl 14 [eRel a0.r, .sl false (List.map I a0.done), I (w64 (1 + (Int.tmod (w64 (a0.wait.toNat : Int)) 1000))), I (w64 (1 + (Int.tmod (w64 (a0.every.toNat : Int)) 1000)))] [.pv (eRel x13), .pv (.sl false (List.map ePacket x14))] ∧
 Fk x1
 (∃ x15, Cl 15 [eRel x7, eRel x9] [.pv (B x15)] ∧
 Fk x15
 (Fk (x8 == x10)
 (∃ x16, Cl 16 [eRel a0.r, .sl false (List.map I a0.done)] [.pv (eRel x16)] ∧
 ∃ x17, Cl 17 [eRel a0.r, .sl false (List.map I a0.done)] [.pv (eRel x17)] ∧
 ∃ x18, Cl 15 [eRel x16, eRel x17] [.pv (B x18)] ∧
 Fk x18
 (∃ x19, Cl 15 [eRel x11, eRel x13] [.pv (B x19)] ∧
 Fk x19
 (∃ x20, Cl 18 [.sl false (List.map ePacket x12), .sl false (List.map ePacket x14)] [.pv (B x20)] ∧
 Φ [.pv (B x20)])
 (Φ [.pv (B false)]))
 (Φ [.pv (B false)]))
 (Φ [.pv (B false)]))
 (Φ [.pv (B false)]))
 (Φ [.pv (B false)])))))))))
theorem t3 (a0 : RelHearsIn) {Φ : List RV → Prop} (h : P3 a0 Φ) : CtP Tryz.prog 3 [eRelHearsIn a0] Φ :=
  ctP_by h 1000 [(8000, .call [.pv .bool]), (9001, .call [.pv .bool]), (9003, .fork [(9014, .off), (9019, .off), (9024, .off), (9009, .off)] []), (9006, .call [.pv .bool]), (9009, .fork [(9019, .off), (9024, .off), (9014, .off)] []), (9011, .call [.pv .bool]), (9014, .fork [(9024, .off), (9019, .off)] []), (9016, .call [.pv .bool]), (9019, .fork [(9024, .off)] []), (9022, .call [.pv .bool]), (9024, .fork [] []), (11002, .div), (12002, .div), (13002, .div), (14005, .call [.pv (.ty Rel eRel), .pv .bool]), (15005, .call [.pv (.ty Rel eRel), .pv .bool]), (16004, .call [.pv (.ty Rel eRel), .pv (.ty (List Packet) lPacket)]), (17004, .call [.pv (.ty Rel eRel), .pv (.ty (List Packet) lPacket)]), (18001, .fork [] [(18006, .off), (18011, .off), (18020, .off), (18025, .off)]), (18004, .call [.pv .bool]), (18006, .fork [] [(18011, .off), (18020, .off), (18025, .off)]), (18011, .fork [] [(18020, .off), (18025, .off)]), (18014, .call [.pv (.ty Rel eRel)]), (18017, .call [.pv (.ty Rel eRel)]), (18018, .call [.pv .bool]), (18020, .fork [] [(18025, .off)]), (18023, .call [.pv .bool]), (18025, .fork [] []), (18028, .call [.pv .bool])] mixed Tryz.func3 rfl (by kernel_rfl) (by kernel_rfl)

/-- precentorlaw20.RelHush -/
def P4 (a0 : UInt8) (a1 : Bool) (Φ : List RV → Prop) : Prop :=
 ∃ x1, Cl 5 [] [.pv (B x1)] ∧
 Nz 20 (
 ∃ x2, Cl 19 [I 1, I 3] [.pv (eRel x2)] ∧
 ∃ x3 x4, Cl 11 [eRel x2, .agg [I 1, I 0, I 3, I 3, I 0, I 0, I 0, I 0, .sl true [], .sl true [], I 0, I 0, I 0, I 0, .sl true []], .sl false [I 0, I 0, I 0], I 20, I (w64 (2 + (Int.tmod (w64 (a0.toNat : Int)) 20)))] [.pv (eRel x3), .pv (B x4)] ∧
 ∃ x5 x6, Cl 13 [eRel x3, .sl false [I 0, I 0, I 0], I (w64 (2 + (Int.tmod (w64 (a0.toNat : Int)) 20))), I 1000] [.pv (eRel x5), .pv (.sl false (List.map ePacket x6))] ∧
 Jn (fun v7 : Bool × Bool × List PV × Int × (Int × Int × Int × (List PV) × (List PV) × (List PV) × (List PV) × (List PV) × (List PV) × Int × Unit) × Unit =>
 ∃ x9 x10, Cl 11 [.agg [I v7.2.2.2.2.1.1, I v7.2.2.2.2.1.2.1, I v7.2.2.2.2.1.2.2.1, .sl false v7.2.2.2.2.1.2.2.2.1, .sl false v7.2.2.2.2.1.2.2.2.2.1, .sl false v7.2.2.2.2.1.2.2.2.2.2.1, .sl false v7.2.2.2.2.1.2.2.2.2.2.2.1, .sl false v7.2.2.2.2.1.2.2.2.2.2.2.2.1, .sl false v7.2.2.2.2.1.2.2.2.2.2.2.2.2.1, I v7.2.2.2.2.1.2.2.2.2.2.2.2.2.2.1], .agg [I 3, I 2, I 0, I 0, I 0, I 0, I 0, I 0, .sl true [], .sl true [], I 0, I v7.2.2.2.1, I 1, I 0, .sl true []], .sl false [I 0, I 0, I 0], I 20, I (w64 (2 + (Int.tmod (w64 (a0.toNat : Int)) 20)))] [.pv (eRel x9), .pv (B x10)] ∧
 Ln v7.2.2.1 (Fk (!v7.2.1)
 (Φ [.pv (B false)])
 (Fk (!x10)
 (Φ [.pv (B false)])
 (Fk ((v7.2.2.1.length : Int) != 0)
 (Φ [.pv (B false)])
 (Jn (fun v11 : Bool × Int × Unit =>
 Fk v11.1
 (Fk a1
 (Fk (v11.2.1 == (w64 ((w64 (2 + (Int.tmod (w64 (a0.toNat : Int)) 20))) + 1)))
 (Φ [.pv (B true)])
 (Fk (!a1)
 (Φ [.pv (B (v11.2.1 == 2))])
 (Φ [.pv (B false)])))
 (Fk (!a1)
 (Φ [.pv (B (v11.2.1 == 2))])
 (Φ [.pv (B false)])))
 (Φ [.pv (B false)])) (fun j12 =>
 (fun j12 : Bool × Int × Unit → Prop =>
 SmA (.pv (B a1)) ∧ SmA (.pv (I (w64 (2 + (Int.tmod (w64 (a0.toNat : Int)) 20))))) ∧ SmA (.pv (.sl false [I 0, I 0, I 0])) ∧ SmA (.bp 655464 0) ∧ Lo (fun (L14 : Bool × Int × Int × (Int × Int × Int × (List PV) × (List PV) × (List PV) × (List PV) × (List PV) × (List PV) × Int × Unit) × Unit → Prop) (v13 : Bool × Int × Int × (Int × Int × Int × (List PV) × (List PV) × (List PV) × (List PV) × (List PV) × (List PV) × Int × Unit) × Unit) =>
 Fk (decide (v13.2.2.1 ≤ (w64 ((w64 (2 + (Int.tmod (w64 (a0.toNat : Int)) 20))) + 3))))
 (Fk (v13.2.1 == 0)
 (∃ x15 x16, Cl 13 [.agg [I v13.2.2.2.1.1, I v13.2.2.2.1.2.1, I v13.2.2.2.1.2.2.1, .sl false v13.2.2.2.1.2.2.2.1, .sl false v13.2.2.2.1.2.2.2.2.1, .sl false v13.2.2.2.1.2.2.2.2.2.1, .sl false v13.2.2.2.1.2.2.2.2.2.2.1, .sl false v13.2.2.2.1.2.2.2.2.2.2.2.1, .sl false v13.2.2.2.1.2.2.2.2.2.2.2.2.1, I v13.2.2.2.1.2.2.2.2.2.2.2.2.2.1], .sl false [I 0, I 0, I 0], I (w64 (2 + (Int.tmod (w64 (a0.toNat : Int)) 20))), I 1000] [.pv (eRel x15), .pv (.sl false (List.map ePacket x16))] ∧
 Jn (fun v17 : Bool × Int × Int × List PV × (Int × Int × Int × (List PV) × (List PV) × (List PV) × (List PV) × (List PV) × (List PV) × Int × Unit) × (Int × Int × Int × (List PV) × (List PV) × (List PV) × (List PV) × (List PV) × (List PV) × Int × Unit) × Unit =>
 Jn (fun v19 : Bool × Int × Int × (Int × Int × Int × (List PV) × (List PV) × (List PV) × (List PV) × (List PV) × (List PV) × Int × Unit) × (Int × Int × Int × (List PV) × (List PV) × (List PV) × (List PV) × (List PV) × (List PV) × Int × Unit) × Unit =>
 SmA (.pv (B a1)) ∧ SmA (.pv (I (w64 (2 + (Int.tmod (w64 (a0.toNat : Int)) 20))))) ∧ SmA (.pv (.sl false [I 0, I 0, I 0])) ∧ SmA (.bp 655464 0) ∧ L14 (v19.1, v19.2.1, w64 (v19.2.2.1 + 1), (v19.2.2.2.2.1.1, v19.2.2.2.2.1.2.1, v19.2.2.2.2.1.2.2.1, v19.2.2.2.2.1.2.2.2.1, v19.2.2.2.2.1.2.2.2.2.1, v19.2.2.2.2.1.2.2.2.2.2.1, v19.2.2.2.2.1.2.2.2.2.2.2.1, v19.2.2.2.2.1.2.2.2.2.2.2.2.1, v19.2.2.2.2.1.2.2.2.2.2.2.2.2.1, v19.2.2.2.2.1.2.2.2.2.2.2.2.2.2.1, ()), ())) (fun j20 =>
 (fun j20 : Bool × Int × Int × (Int × Int × Int × (List PV) × (List PV) × (List PV) × (List PV) × (List PV) × (List PV) × Int × Unit) × (Int × Int × Int × (List PV) × (List PV) × (List PV) × (List PV) × (List PV) × (List PV) × Int × Unit) × Unit → Prop =>
 Ln v17.2.2.2.1 (Fk ((v17.2.2.2.1.length : Int) == 1)
 (j20 (v17.1, v17.2.2.1, v17.2.2.1, (v17.2.2.2.2.1.1, v17.2.2.2.2.1.2.1, v17.2.2.2.2.1.2.2.1, v17.2.2.2.2.1.2.2.2.1, v17.2.2.2.2.1.2.2.2.2.1, v17.2.2.2.2.1.2.2.2.2.2.1, v17.2.2.2.2.1.2.2.2.2.2.2.1, v17.2.2.2.2.1.2.2.2.2.2.2.2.1, v17.2.2.2.2.1.2.2.2.2.2.2.2.2.1, v17.2.2.2.2.1.2.2.2.2.2.2.2.2.2.1, ()), (v17.2.2.2.2.2.1.1, v17.2.2.2.2.2.1.2.1, v17.2.2.2.2.2.1.2.2.1, v17.2.2.2.2.2.1.2.2.2.1, v17.2.2.2.2.2.1.2.2.2.2.1, v17.2.2.2.2.2.1.2.2.2.2.2.1, v17.2.2.2.2.2.1.2.2.2.2.2.2.1, v17.2.2.2.2.2.1.2.2.2.2.2.2.2.1, v17.2.2.2.2.2.1.2.2.2.2.2.2.2.2.1, v17.2.2.2.2.2.1.2.2.2.2.2.2.2.2.2.1, ()), ()))
 (j20 (v17.1, v17.2.1, v17.2.2.1, (v17.2.2.2.2.1.1, v17.2.2.2.2.1.2.1, v17.2.2.2.2.1.2.2.1, v17.2.2.2.2.1.2.2.2.1, v17.2.2.2.2.1.2.2.2.2.1, v17.2.2.2.2.1.2.2.2.2.2.1, v17.2.2.2.2.1.2.2.2.2.2.2.1, v17.2.2.2.2.1.2.2.2.2.2.2.2.1, v17.2.2.2.2.1.2.2.2.2.2.2.2.2.1, v17.2.2.2.2.1.2.2.2.2.2.2.2.2.2.1, ()), (v17.2.2.2.2.2.1.1, v17.2.2.2.2.2.1.2.1, v17.2.2.2.2.2.1.2.2.1, v17.2.2.2.2.2.1.2.2.2.1, v17.2.2.2.2.2.1.2.2.2.2.1, v17.2.2.2.2.2.1.2.2.2.2.2.1, v17.2.2.2.2.2.1.2.2.2.2.2.2.1, v17.2.2.2.2.2.1.2.2.2.2.2.2.2.1, v17.2.2.2.2.2.1.2.2.2.2.2.2.2.2.1, v17.2.2.2.2.2.1.2.2.2.2.2.2.2.2.2.1, ()), ())))) (fun v => SmA (.pv (B a1)) ∧ SmA (.pv (I (w64 (2 + (Int.tmod (w64 (a0.toNat : Int)) 20))))) ∧ SmA (.pv (.sl false [I 0, I 0, I 0])) ∧ SmA (.bp 655464 0) ∧ SmA (.bp 1048712 0) ∧ j20 v))) (fun j18 =>
 (fun j18 : Bool × Int × Int × List PV × (Int × Int × Int × (List PV) × (List PV) × (List PV) × (List PV) × (List PV) × (List PV) × Int × Unit) × (Int × Int × Int × (List PV) × (List PV) × (List PV) × (List PV) × (List PV) × (List PV) × Int × Unit) × Unit → Prop =>
 Ln (List.map ePacket x16) (Fk (decide (1 < ((List.map ePacket x16).length : Int)))
 (Φ [.pv (B false)])
 (Fk (((List.map ePacket x16).length : Int) == 1)
 (Ix ePacket (List.map ePacket x16) 0 fun x21 =>
 Fk (x21.kind != 3)
 (Φ [.pv (B false)])
 (Ix ePacket (List.map ePacket x16) 0 fun x22 =>
 Fk (x22.to_ != 0)
 (Φ [.pv (B false)])
 (Ix ePacket (List.map ePacket x16) 0 fun x23 =>
 Fk (x23.lo != 1)
 (Φ [.pv (B false)])
 (Ix ePacket (List.map ePacket x16) 0 fun x24 =>
 Fk (x24.many != 2)
 (Φ [.pv (B false)])
 (j18 (v13.1, v13.2.1, v13.2.2.1, List.map ePacket x16, (v13.2.2.2.1.1, v13.2.2.2.1.2.1, v13.2.2.2.1.2.2.1, v13.2.2.2.1.2.2.2.1, v13.2.2.2.1.2.2.2.2.1, v13.2.2.2.1.2.2.2.2.2.1, v13.2.2.2.1.2.2.2.2.2.2.1, v13.2.2.2.1.2.2.2.2.2.2.2.1, v13.2.2.2.1.2.2.2.2.2.2.2.2.1, v13.2.2.2.1.2.2.2.2.2.2.2.2.2.1, ()), (x15.me, x15.now, x15.keep.next, List.map eItem x15.keep.l, List.map eWin x15.win, List.map I x15.top, List.map eAsk x15.ask, List.map lI x15.have_, List.map I x15.lost, x15.naks, ()), ()))))))
 (j18 (v13.1, v13.2.1, v13.2.2.1, List.map ePacket x16, (v13.2.2.2.1.1, v13.2.2.2.1.2.1, v13.2.2.2.1.2.2.1, v13.2.2.2.1.2.2.2.1, v13.2.2.2.1.2.2.2.2.1, v13.2.2.2.1.2.2.2.2.2.1, v13.2.2.2.1.2.2.2.2.2.2.1, v13.2.2.2.1.2.2.2.2.2.2.2.1, v13.2.2.2.1.2.2.2.2.2.2.2.2.1, v13.2.2.2.1.2.2.2.2.2.2.2.2.2.1, ()), (x15.me, x15.now, x15.keep.next, List.map eItem x15.keep.l, List.map eWin x15.win, List.map I x15.top, List.map eAsk x15.ask, List.map lI x15.have_, List.map I x15.lost, x15.naks, ()), ()))))) (fun v => SmA (.pv (B a1)) ∧ SmA (.pv (I (w64 (2 + (Int.tmod (w64 (a0.toNat : Int)) 20))))) ∧ SmA (.pv (.sl false [I 0, I 0, I 0])) ∧ SmA (.bp 655464 0) ∧ SmA (.bp 1048712 0) ∧ j18 v)))
 (j12 (v13.1, v13.2.1, ())))
 (j12 (v13.1, v13.2.1, ()))) (v7.1, 0, 2, (x9.me, x9.now, x9.keep.next, List.map eItem x9.keep.l, List.map eWin x9.win, List.map I x9.top, List.map eAsk x9.ask, List.map lI x9.have_, List.map I x9.lost, x9.naks, ()), ())) (fun v => SmA (.pv (B a1)) ∧ SmA (.pv (I (w64 (2 + (Int.tmod (w64 (a0.toNat : Int)) 20))))) ∧ j12 v))))))) (fun j8 =>
 (fun j8 : Bool × Bool × List PV × Int × (Int × Int × Int × (List PV) × (List PV) × (List PV) × (List PV) × (List PV) × (List PV) × Int × Unit) × Unit → Prop =>
 Fk (!a1)
 (j8 (x1, x4, List.map ePacket x6, 2, (x5.me, x5.now, x5.keep.next, List.map eItem x5.keep.l, List.map eWin x5.win, List.map I x5.top, List.map eAsk x5.ask, List.map lI x5.have_, List.map I x5.lost, x5.naks, ()), ()))
 (j8 (x1, x4, List.map ePacket x6, 1, (x5.me, x5.now, x5.keep.next, List.map eItem x5.keep.l, List.map eWin x5.win, List.map I x5.top, List.map eAsk x5.ask, List.map lI x5.have_, List.map I x5.lost, x5.naks, ()), ()))) (fun v => SmA (.pv (B a1)) ∧ SmA (.pv (I (w64 (2 + (Int.tmod (w64 (a0.toNat : Int)) 20))))) ∧ SmA (.pv (.sl false [I 0, I 0, I 0])) ∧ SmA (.bp 458832 0) ∧ j8 v)))
theorem t4 (a0 : UInt8) (a1 : Bool) {Φ : List RV → Prop} (h : P4 a0 a1 Φ) : CtP Tryz.prog 4 [U8 a0, B a1] Φ :=
  ctP_by h 1000 [(1000, .call [.pv .bool]), (2002, .div), (4000, .call [.pv (.ty Rel eRel)]), (5005, .call [.pv (.ty Rel eRel), .pv .bool]), (6003, .call [.pv (.ty Rel eRel), .pv (.ty (List Packet) lPacket)]), (8001, .fork [] []), (10005, .call [.pv (.ty Rel eRel), .pv .bool]), (10998, .join [.k 1 (.pv (B a1)), .c 5 .bool, .k 6 (.pv (I (w64 (2 + (Int.tmod (w64 (a0.toNat : Int)) 20))))), .k 7 (.pv (.sl false [I 0, I 0, I 0])), .c 9 .bool, .k 10 (.bp 458832 0), .c 11 .sl, .c 12 (.int .i64), .box 458832 true [.h (.int .i64), .h (.int .i64), .h (.int .i64), .h .sl, .h .sl, .h .sl, .h .sl, .h .sl, .h .sl, .h (.int .i64)]]), (11002, .fork [(11010, .off), (11006, .off)] []), (11006, .fork [(11010, .off)] []), (11010, .fork [] []), (11997, .lens [11]), (15004, .fork [] [(15007, .off)]), (15007, .fork [] []), (15999, .loop [.k 1 (.pv (B a1)), .c 5 .bool, .k 6 (.pv (I (w64 (2 + (Int.tmod (w64 (a0.toNat : Int)) 20))))), .k 7 (.pv (.sl false [I 0, I 0, I 0])), .k 13 (.bp 655464 0), .c 15 (.int .i64), .c 16 (.int .i64), .box 655464 true [.h (.int .i64), .h (.int .i64), .h (.int .i64), .h .sl, .h .sl, .h .sl, .h .sl, .h .sl, .h .sl, .h (.int .i64)]]), (17003, .call [.pv (.ty Rel eRel), .pv (.ty (List Packet) lPacket)]), (18003, .fork [(18035, .off)] []), (18007, .fork [] [(18035, .off)]), (18009, .ix Packet ePacket), (18013, .fork [(18027, .off), (18035, .off), (18020, .off)] []), (18015, .ix Packet ePacket), (18020, .fork [(18035, .off), (18027, .off)] []), (18022, .ix Packet ePacket), (18027, .fork [(18035, .off)] []), (18029, .ix Packet ePacket), (18035, .fork [] []), (18997, .lens [18]), (20002, .fork [] []), (20997, .lens [18]), (20998, .join [.k 1 (.pv (B a1)), .c 5 .bool, .k 6 (.pv (I (w64 (2 + (Int.tmod (w64 (a0.toNat : Int)) 20))))), .k 7 (.pv (.sl false [I 0, I 0, I 0])), .k 13 (.bp 655464 0), .c 15 (.int .i64), .c 16 (.int .i64), .k 17 (.bp 1048712 0), .c 18 .sl, .box 655464 true [.h (.int .i64), .h (.int .i64), .h (.int .i64), .h .sl, .h .sl, .h .sl, .h .sl, .h .sl, .h .sl, .h (.int .i64)], .box 1048712 true [.h (.int .i64), .h (.int .i64), .h (.int .i64), .h .sl, .h .sl, .h .sl, .h .sl, .h .sl, .h .sl, .h (.int .i64)]]), (22998, .join [.k 1 (.pv (B a1)), .c 5 .bool, .k 6 (.pv (I (w64 (2 + (Int.tmod (w64 (a0.toNat : Int)) 20))))), .k 7 (.pv (.sl false [I 0, I 0, I 0])), .k 13 (.bp 655464 0), .c 15 (.int .i64), .c 16 (.int .i64), .k 17 (.bp 1048712 0), .box 655464 true [.h (.int .i64), .h (.int .i64), .h (.int .i64), .h .sl, .h .sl, .h .sl, .h .sl, .h .sl, .h .sl, .h (.int .i64)], .box 1048712 true [.h (.int .i64), .h (.int .i64), .h (.int .i64), .h .sl, .h .sl, .h .sl, .h .sl, .h .sl, .h .sl, .h (.int .i64)]]), (23001, .fork [] []), (23003, .fork [] [(23009, .off)]), (23009, .fork [] []), (23012, .fork [] []), (23998, .join [.k 1 (.pv (B a1)), .c 5 .bool, .k 6 (.pv (I (w64 (2 + (Int.tmod (w64 (a0.toNat : Int)) 20))))), .c 15 (.int .i64)])] mixed Tryz.func4 rfl (by kernel_rfl) (by kernel_rfl)
end Go.Proofs.YtnhaofaeaokgdaaGreat.M
