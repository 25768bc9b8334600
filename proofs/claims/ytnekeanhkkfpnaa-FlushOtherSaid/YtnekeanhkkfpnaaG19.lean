/- The functions of this seat: what must be shown of each (P..), and that it is enough (t..) (written by a program of this session; no condition). -/
import Derived.Test.YtnekeanhkkfpnaaProg
import Derived.KernelRfl
import Derived.Test.YtnekeanhkkfpnaaMx24
set_option linter.all false
set_option linter.unusedVariables false
set_option linter.unusedSimpArgs false
set_option linter.unnecessarySimpa false
namespace Go.Proofs.Ytnekeanhkkfpnaa.M
open Go Go.Mir Go.Proofs
set_option maxRecDepth 100000
set_option linter.unusedVariables false
abbrev Clb (g : Nat) (xs : List BA) (bs : List (List PV)) (rs : List RV) (cs : List (List PV)) : Prop := Cb Try.prog g xs bs rs cs
abbrev Cl (g : Nat) (ps : List PV) (rs : List RV) : Prop := Ct Try.prog g ps rs
theorem mixed : Try.prog.follows .mixedOrders = true := by kernel_rfl
structure Barrier where
  mk ::
  on : Bool
  next : Int
  acked : List Bool
  count : List Int
  done : Bool
  l : List Int
abbrev eBarrier (x : Barrier) : PV := .agg [B x.on, I x.next, .sl false (List.map B x.acked), .sl false (List.map I x.count), B x.done, .sl false (List.map I x.l)]
abbrev lBarrier (l : List Barrier) : PV := .sl false (l.map eBarrier)
structure Item where
  mk ::
  kind : Int
  seq : Int
  epoch : Int
  index : Int
  total : Int
  count : Int
  l : List Int
  body : List UInt8
abbrev eItem (x : Item) : PV := .agg [I x.kind, I x.seq, I x.epoch, I x.index, I x.total, I x.count, .sl false (List.map I x.l), .sl false (List.map U8 x.body)]
abbrev lItem (l : List Item) : PV := .sl false (l.map eItem)
structure FlushTellsIn where
  mk ::
  b : Barrier
  o : Barrier
  n : Int
  from_ : UInt8
  it : Item
  sent : Int
abbrev eFlushTellsIn (x : FlushTellsIn) : PV := .agg [B x.b.on, I x.b.next, .sl false (List.map B x.b.acked), .sl false (List.map I x.b.count), B x.b.done, .sl false (List.map I x.b.l), B x.o.on, I x.o.next, .sl false (List.map B x.o.acked), .sl false (List.map I x.o.count), B x.o.done, .sl false (List.map I x.o.l), I x.n, U8 x.from_, I x.it.kind, I x.it.seq, I x.it.epoch, I x.it.index, I x.it.total, I x.it.count, .sl false (List.map I x.it.l), .sl false (List.map U8 x.it.body), .lit (.int .u32 x.sent)]
abbrev lFlushTellsIn (l : List FlushTellsIn) : PV := .sl false (l.map eFlushTellsIn)
structure Ear where
  mk ::
  barrier : Barrier
abbrev eEar (x : Ear) : PV := .agg [B x.barrier.on, I x.barrier.next, .sl false (List.map B x.barrier.acked), .sl false (List.map I x.barrier.count), B x.barrier.done, .sl false (List.map I x.barrier.l)]
abbrev lEar (l : List Ear) : PV := .sl false (l.map eEar)
structure FlushStaysIn where
  mk ::
  b : Barrier
  n : Int
  from_ : UInt8
  it : Item
abbrev eFlushStaysIn (x : FlushStaysIn) : PV := .agg [B x.b.on, I x.b.next, .sl false (List.map B x.b.acked), .sl false (List.map I x.b.count), B x.b.done, .sl false (List.map I x.b.l), I x.n, U8 x.from_, I x.it.kind, I x.it.seq, I x.it.epoch, I x.it.index, I x.it.total, I x.it.count, .sl false (List.map I x.it.l), .sl false (List.map U8 x.it.body)]
abbrev lFlushStaysIn (l : List FlushStaysIn) : PV := .sl false (l.map eFlushStaysIn)
/-- flush.New -/
def P19 (a0 : Int) (Φ : List RV → Prop) : Prop :=
 Mk 1 a0 a0 (
 Mk 8 a0 a0 (
 Φ [.pv (.agg [B false, I 0, .sl false (List.replicate a0.toNat (B false)), .sl false (List.replicate a0.toNat (I 0)), B false, .sl true []])]))
theorem t19 (a0 : Int) {Φ : List RV → Prop} (h : P19 a0 Φ) : CtP Try.prog 19 [I a0] Φ :=
  ctP_by h 1000 [(1001, .mk), (1003, .mk)] mixed Try.func19 rfl (by kernel_rfl) (by kernel_rfl)

/-- (*flush.ear).flush -/
def P33a (b0 : Ear) (b1 : Int) (b2 : Item) (Φ : List RV → List (List PV) → Prop) : Prop :=
 Fk (b1 != 0)
 (Φ [.pv (B false)] [[B b0.barrier.on, I b0.barrier.next, .sl false (List.map B b0.barrier.acked), .sl false (List.map I b0.barrier.count), B b0.barrier.done, .sl false (List.map I b0.barrier.l)]])
 (Fk b0.barrier.on
 (Φ [.pv (B false)] [[B b0.barrier.on, I b0.barrier.next, .sl false (List.map B b0.barrier.acked), .sl false (List.map I b0.barrier.count), B b0.barrier.done, .sl false (List.map I b0.barrier.l)]])
 (Φ [.pv (B true)] [[B true, I b2.index, .sl false (List.map B b0.barrier.acked), .sl false (List.map I b0.barrier.count), B b0.barrier.done, .sl false (List.map I b0.barrier.l)]]))
theorem t33a (b0 : Ear) (b1 : Int) (b2 : Item) {Φ : List RV → List (List PV) → Prop} (h : P33a b0 b1 b2 Φ) : CtB Try.prog 33 [.b 0, .p (I b1), .p (eItem b2)] [(eEar b0).cells] Φ :=
  ctB_by h 1000 [(1002, .fork [(1008, .off)] []), (1008, .fork [] [])] mixed Try.func33 rfl (by kernel_rfl) (by kernel_rfl)

/-- slices.Clone[[]bool,bool] -/
def P41 (a0 : List PV) (Φ : List RV → Prop) : Prop :=
 Nq a0
 (Φ [.pv (.sl true [])])
 (Ok (okNews 1 a0) (Sz 0 a0.length 1 (
 Φ [.fresh 4 1 a0])))
theorem t41 (a0 : List PV) {Φ : List RV → Prop} (h : P41 a0 Φ) : CtP Try.prog 41 [.sl false a0] Φ :=
  ctP_by h 1000 [(3002, .app true false)] mixed Try.func41 rfl (by kernel_rfl) (by kernel_rfl)

/-- slices.Clone[[]int,int] -/
def P36 (a0 : List PV) (Φ : List RV → Prop) : Prop :=
 Nq a0
 (Φ [.pv (.sl true [])])
 (Ok (okNews 1 a0) (Sz 0 a0.length 8 (
 Φ [.fresh 3 1 a0])))
theorem t36 (a0 : List PV) {Φ : List RV → Prop} (h : P36 a0 Φ) : CtP Try.prog 36 [.sl false a0] Φ :=
  ctP_by h 1000 [(3002, .app true false)] mixed Try.func36 rfl (by kernel_rfl) (by kernel_rfl)

/-- (*flush.ear).ack -/
def P34a (b0 : Ear) (b1 : Int) (b2 : Item) (Φ : List RV → List (List PV) → Prop) : Prop :=
 Ix B (List.map B b0.barrier.acked) b1 fun x1 =>
 Fk x1
 (Φ [.pv (B false)] [[B b0.barrier.on, I b0.barrier.next, .sl false (List.map B b0.barrier.acked), .sl false (List.map I b0.barrier.count), B b0.barrier.done, .sl false (List.map I b0.barrier.l)]])
 (∃ x2, Cl 41 [.sl false (List.map B b0.barrier.acked)] [.fresh 4 1 x2] ∧
 ∃ x3, Cl 36 [.sl false (List.map I b0.barrier.count)] [.fresh 3 1 x3] ∧
 Rx b1 x2.length (
 Ld B x2 (0 + b1.toNat) fun x4 =>
 Rx b1 x3.length (
 Ld I x3 (0 + b1.toNat) fun x5 =>
 Φ [.pv (B true)] [[B b0.barrier.on, I b0.barrier.next, .sl false (x2.set (0 + b1.toNat) (B true)), .sl false (x3.set (0 + b1.toNat) (I b2.count)), B b0.barrier.done, .sl false (List.map I b0.barrier.l)]])))
theorem t34a (b0 : Ear) (b1 : Int) (b2 : Item) {Φ : List RV → List (List PV) → Prop} (h : P34a b0 b1 b2 Φ) : CtB Try.prog 34 [.b 0, .p (I b1), .p (eItem b2)] [(eEar b0).cells] Φ :=
  ctB_by h 1000 [(1006, .ix Bool B), (1007, .fork [] []), (3007, .call [.row 4 1]), (3013, .call [.row 3 1]), (4014, .ixr), (4015, .st Bool B), (4016, .ixr), (4017, .st Int I)] mixed Try.func34 rfl (by kernel_rfl) (by kernel_rfl)

/-- (*flush.ear).install -/
def P35a (b0 : Ear) (b1 : Int) (b2 : Item) (Φ : List RV → List (List PV) → Prop) : Prop :=
 Ln (List.map I b2.l) (Ln (List.map U8 b2.body) (Fk (b1 != 0)
 (Φ [.pv (B false)] [[B b0.barrier.on, I b0.barrier.next, .sl false (List.map B b0.barrier.acked), .sl false (List.map I b0.barrier.count), B b0.barrier.done, .sl false (List.map I b0.barrier.l)]])
 (Fk b0.barrier.done
 (Φ [.pv (B false)] [[B b0.barrier.on, I b0.barrier.next, .sl false (List.map B b0.barrier.acked), .sl false (List.map I b0.barrier.count), B b0.barrier.done, .sl false (List.map I b0.barrier.l)]])
 (Fk (((List.map I b2.l).length : Int) != ((List.map B b0.barrier.acked).length : Int))
 (Φ [.pv (B false)] [[B b0.barrier.on, I b0.barrier.next, .sl false (List.map B b0.barrier.acked), .sl false (List.map I b0.barrier.count), B b0.barrier.done, .sl false (List.map I b0.barrier.l)]])
 (∃ x1, Cl 36 [.sl false (List.map I b2.l)] [.fresh 3 1 x1] ∧
 Φ [.pv (B true)] [[B b0.barrier.on, I b0.barrier.next, .sl false (List.map B b0.barrier.acked), .sl false (List.map I b0.barrier.count), B true, .sl false x1]])))))
theorem t35a (b0 : Ear) (b1 : Int) (b2 : Item) {Φ : List RV → List (List PV) → Prop} (h : P35a b0 b1 b2 Φ) : CtB Try.prog 35 [.b 0, .p (I b1), .p (eItem b2)] [(eEar b0).cells] Φ :=
  ctB_by h 1000 [(1002, .fork [(1020, .off), (1009, .off)] []), (1009, .fork [(1020, .off)] []), (1020, .fork [] []), (1997, .lens [5]), (3004, .call [.row 3 1])] mixed Try.func35 rfl (by kernel_rfl) (by kernel_rfl)

/-- flush.Hear -/
def P15 (a0 : Barrier) (a1 : Int) (a2 : Item) (Φ : List RV → Prop) : Prop :=
 Fk (a2.kind == 4)
 (∃ x1 x2, Clb 33 [.b 0, .p (I a1), .p (eItem a2)] [[B a0.on, I a0.next, .sl false (List.map B a0.acked), .sl false (List.map I a0.count), B a0.done, .sl false (List.map I a0.l)]] [.pv (B x1)] [(eEar x2).cells] ∧
 Fk (!x1)
 (Φ [.pv (eBarrier a0), .pv (I 2)])
 (Φ [.pv (eBarrier x2.barrier), .pv (I 0)]))
 (Fk (a2.kind == 5)
 (∃ x3 x4, Clb 34 [.b 0, .p (I a1), .p (eItem a2)] [[B a0.on, I a0.next, .sl false (List.map B a0.acked), .sl false (List.map I a0.count), B a0.done, .sl false (List.map I a0.l)]] [.pv (B x3)] [(eEar x4).cells] ∧
 Fk (!x3)
 (Φ [.pv (eBarrier a0), .pv (I 2)])
 (Φ [.pv (eBarrier x4.barrier), .pv (I 0)]))
 (Fk (a2.kind == 6)
 (∃ x5 x6, Clb 35 [.b 0, .p (I a1), .p (eItem a2)] [[B a0.on, I a0.next, .sl false (List.map B a0.acked), .sl false (List.map I a0.count), B a0.done, .sl false (List.map I a0.l)]] [.pv (B x5)] [(eEar x6).cells] ∧
 Fk (!x5)
 (Φ [.pv (eBarrier a0), .pv (I 2)])
 (Φ [.pv (eBarrier x6.barrier), .pv (I 0)]))
 (Φ [.pv (eBarrier a0), .pv (I 1)])))
theorem t15 (a0 : Barrier) (a1 : Int) (a2 : Item) {Φ : List RV → Prop} (h : P15 a0 a1 a2 Φ) : CtP Try.prog 15 [eBarrier a0, I a1, eItem a2] Φ :=
  ctP_by h 1000 [(2003, .look []), (6004, .callb [.pv .bool] [327888] [.ty Ear (fun x => (eEar x).cells)]), (6005, .fork [] [])] mixed Try.func15 rfl (by kernel_rfl) (by kernel_rfl)

/-- slices.Index[[]bool,bool] -/
def P42 (a0 : List PV) (a1 : Bool) (Φ : List RV → Prop) : Prop :=
 Ln a0 (SmA (.pv (.sl false a0)) ∧ SmA (.pv (B a1)) ∧ SmA (.pv (I (a0.length : Int))) ∧ Lo (fun (L2 : Int × Unit → Prop) (v1 : Int × Unit) =>
 Fk (decide (v1.1 < (a0.length : Int)))
 (Ix B a0 v1.1 fun x3 =>
 Fk (a1 == x3)
 (Φ [.pv (I v1.1)])
 (SmA (.pv (.sl false a0)) ∧ SmA (.pv (B a1)) ∧ SmA (.pv (I (a0.length : Int))) ∧ L2 (w64 (v1.1 + 1), ())))
 (Φ [.pv (I (-1))])) (0, ()))
theorem t42 (a0 : List PV) (a1 : Bool) {Φ : List RV → Prop} (h : P42 a0 a1 Φ) : CtP Try.prog 42 [.sl false a0, B a1] Φ :=
  ctP_by h 1000 [(1997, .lens [0]), (2000, .fork [] []), (2999, .loop [.k 0 (.pv (.sl false a0)), .k 1 (.pv (B a1)), .k 7 (.pv (I (a0.length : Int))), .c 8 (.int .i64)]), (4003, .ix Bool B), (4005, .fork [] [])] mixed Try.func42 rfl (by kernel_rfl) (by kernel_rfl)

/-- slices.Contains[[]bool,bool] -/
def P37 (a0 : List PV) (a1 : Bool) (Φ : List RV → Prop) : Prop :=
 ∃ x1, Cl 42 [.sl false a0, B a1] [.pv (I x1)] ∧
 Φ [.pv (B (decide (0 ≤ x1)))]
theorem t37 (a0 : List PV) (a1 : Bool) {Φ : List RV → Prop} (h : P37 a0 a1 Φ) : CtP Try.prog 37 [.sl false a0, B a1] Φ :=
  ctP_by h 1000 [(1002, .call [.pv (.int .i64)])] mixed Try.func37 rfl (by kernel_rfl) (by kernel_rfl)

/-- flush.Whole -/
def P21 (a0 : Barrier) (Φ : List RV → Prop) : Prop :=
 ∃ x1, Cl 37 [.sl false (List.map B a0.acked), B false] [.pv (B x1)] ∧
 Φ [.pv (B (!x1))]
theorem t21 (a0 : Barrier) {Φ : List RV → Prop} (h : P21 a0 Φ) : CtP Try.prog 21 [eBarrier a0] Φ :=
  ctP_by h 1000 [(1002, .call [.pv .bool])] mixed Try.func21 rfl (by kernel_rfl) (by kernel_rfl)

/-- flush.Say -/
def P17 (a0 : Barrier) (a1 : Int) (a2 : Int) (Φ : List RV → Prop) : Prop :=
 Jn (fun v1 : Unit × Unit =>
 Φ [.pv (.agg [I 0, I 0, I 0, I 0, I 0, I 0, .sl true [], .sl true []]), .pv (B false)]) (fun j2 =>
 (fun j2 : Unit × Unit → Prop =>
 Fk a0.on
 (Ix B (List.map B a0.acked) a1 fun x3 =>
 Fk (!x3)
 (Φ [.pv (.agg [I 5, I 0, I 0, I 0, I 0, I a2, .sl true [], .sl true []]), .pv (B true)])
 (Fk (a1 == 0)
 (Fk a0.on
 (Fk (!a0.done)
 (∃ x4, Cl 21 [eBarrier a0] [.pv (B x4)] ∧
 Fk x4
 (∃ x5, Cl 36 [.sl false (List.map I a0.count)] [.fresh 3 1 x5] ∧
 Φ [.pv (.agg [I 6, I 0, I 0, I 0, I 0, I 0, .sl false x5, .sl true []]), .pv (B true)])
 (j2 ((), ())))
 (j2 ((), ())))
 (j2 ((), ())))
 (j2 ((), ()))))
 (Fk (a1 == 0)
 (Fk a0.on
 (Fk (!a0.done)
 (∃ x6, Cl 21 [eBarrier a0] [.pv (B x6)] ∧
 Fk x6
 (∃ x7, Cl 36 [.sl false (List.map I a0.count)] [.fresh 3 1 x7] ∧
 Φ [.pv (.agg [I 6, I 0, I 0, I 0, I 0, I 0, .sl false x7, .sl true []]), .pv (B true)])
 (j2 ((), ())))
 (j2 ((), ())))
 (j2 ((), ())))
 (j2 ((), ())))) (fun v => SmA (.bp 65584 0) ∧ SmA (.pv (I 0)) ∧ SmA (.pv (I 0)) ∧ SmA (.pv (I 0)) ∧ SmA (.pv (I 0)) ∧ SmA (.pv (I 0)) ∧ SmA (.pv (I 0)) ∧ SmA (.pv (.sl true [])) ∧ SmA (.pv (.sl true [])) ∧ j2 v))
theorem t17 (a0 : Barrier) (a1 : Int) (a2 : Int) {Φ : List RV → Prop} (h : P17 a0 a1 a2 Φ) : CtP Try.prog 17 [eBarrier a0, I a1, I a2] Φ :=
  ctP_by h 1000 [(1002, .fork [] [(1010, .off)]), (1006, .ix Bool B), (1010, .fork [] []), (3002, .fork [] [(3006, .off), (3011, .off), (3015, .off)]), (3006, .fork [] [(3011, .off), (3015, .off)]), (3011, .fork [] [(3015, .off)]), (3013, .call [.pv .bool]), (3015, .fork [] []), (4002, .call [.row 3 1]), (5998, .join [.k 6 (.bp 65584 0), .box 65584 true [.k (.pv (I 0)), .k (.pv (I 0)), .k (.pv (I 0)), .k (.pv (I 0)), .k (.pv (I 0)), .k (.pv (I 0)), .k (.pv (.sl true [])), .k (.pv (.sl true []))]])] mixed Try.func17 rfl (by kernel_rfl) (by kernel_rfl)

/-- precentorref02.Same -/
def P26 (a0 : List PV) (a1 : List PV) (Φ : List RV → Prop) : Prop :=
 Ln a0 (Ln a1 (Fk ((a0.length : Int) != (a1.length : Int))
 (Φ [.pv (B false)])
 (SmA (.pv (.sl false a0)) ∧ SmA (.pv (.sl false a1)) ∧ Lo (fun (L2 : Int × Unit → Prop) (v1 : Int × Unit) =>
 Fk (decide (v1.1 < (a0.length : Int)))
 (Ix I a0 v1.1 fun x3 =>
 Ix I a1 v1.1 fun x4 =>
 Fk (x3 != x4)
 (Φ [.pv (B false)])
 (SmA (.pv (.sl false a0)) ∧ SmA (.pv (.sl false a1)) ∧ L2 (w64 (v1.1 + 1), ())))
 (Φ [.pv (B true)])) (0, ()))))
theorem t26 (a0 : List PV) (a1 : List PV) {Φ : List RV → Prop} (h : P26 a0 a1 Φ) : CtP Try.prog 26 [.sl false a0, .sl false a1] Φ :=
  ctP_by h 1000 [(1004, .fork [] []), (1997, .lens [0, 1]), (4003, .fork [] []), (4999, .loop [.k 0 (.pv (.sl false a0)), .k 1 (.pv (.sl false a1)), .c 5 (.int .i64)]), (6002, .ix Int I), (6006, .ix Int I), (6008, .fork [] [])] mixed Try.func26 rfl (by kernel_rfl) (by kernel_rfl)

/-- slices.Equal[[]int,int] -/
def P30 (a0 : List PV) (a1 : List PV) (Φ : List RV → Prop) : Prop :=
 Ln a0 (Ln a1 (Fk ((a0.length : Int) != (a1.length : Int))
 (Φ [.pv (B false)])
 (SmA (.pv (.sl false a0)) ∧ SmA (.pv (.sl false a1)) ∧ SmA (.pv (I (a0.length : Int))) ∧ Lo (fun (L2 : Int × Unit → Prop) (v1 : Int × Unit) =>
 Fk (decide (v1.1 < (a0.length : Int)))
 (Ix I a0 v1.1 fun x3 =>
 Ix I a1 v1.1 fun x4 =>
 Fk (x3 != x4)
 (Φ [.pv (B false)])
 (SmA (.pv (.sl false a0)) ∧ SmA (.pv (.sl false a1)) ∧ SmA (.pv (I (a0.length : Int))) ∧ L2 (w64 (v1.1 + 1), ())))
 (Φ [.pv (B true)])) (0, ()))))
theorem t30 (a0 : List PV) (a1 : List PV) {Φ : List RV → Prop} (h : P30 a0 a1 Φ) : CtP Try.prog 30 [.sl false a0, .sl false a1] Φ :=
  ctP_by h 1000 [(1004, .fork [] []), (1997, .lens [0, 1]), (4000, .fork [] []), (4999, .loop [.k 0 (.pv (.sl false a0)), .k 1 (.pv (.sl false a1)), .k 12 (.pv (I (a0.length : Int))), .c 13 (.int .i64)]), (6002, .ix Int I), (6006, .ix Int I), (6008, .fork [] [])] mixed Try.func30 rfl (by kernel_rfl) (by kernel_rfl)

/-- flush.Ready -/
def P23 (a0 : Barrier) (Φ : List RV → Prop) : Prop :=
 Fk a0.on
 (Fk a0.done
 (∃ x1, Cl 21 [eBarrier a0] [.pv (B x1)] ∧
 Fk x1
 (∃ x2, Cl 30 [.sl false (List.map I a0.l), .sl false (List.map I a0.count)] [.pv (B x2)] ∧
 Φ [.pv (B x2)])
 (Φ [.pv (B false)]))
 (Φ [.pv (B false)]))
 (Φ [.pv (B false)])
theorem t23 (a0 : Barrier) {Φ : List RV → Prop} (h : P23 a0 Φ) : CtP Try.prog 23 [eBarrier a0] Φ :=
  ctP_by h 1000 [(1002, .fork [] [(1006, .off), (1010, .off)]), (1006, .fork [] [(1010, .off)]), (1008, .call [.pv .bool]), (1010, .fork [] []), (1015, .call [.pv .bool])] mixed Try.func23 rfl (by kernel_rfl) (by kernel_rfl)

/-- vec.at -/
def P46 (a0 : List PV) (a1 : Int) (Φ : List RV → Prop) : Prop :=
 Ln a0 (Fk (decide (a1 < 0))
 (Φ [.pv (I 0)])
 (Fk (decide ((a0.length : Int) ≤ a1))
 (Φ [.pv (I 0)])
 (Ix I a0 a1 fun x1 =>
 Φ [.pv (I x1)])))
theorem t46 (a0 : List PV) (a1 : Int) {Φ : List RV → Prop} (h : P46 a0 a1 Φ) : CtP Try.prog 46 [.sl false a0, I a1] Φ :=
  ctP_by h 1000 [(1002, .fork [(1007, .off)] []), (1007, .fork [] []), (1997, .lens [0]), (3002, .ix Int I)] mixed Try.func46 rfl (by kernel_rfl) (by kernel_rfl)

/-- vec.Below$1 -/
def P44 (a0 : Int) (a1 : Int) (Φ : List RV → Prop) : Prop :=
 Φ [.pv (B (decide (a0 ≤ a1)))]
theorem t44 (a0 : Int) (a1 : Int) {Φ : List RV → Prop} (h : P44 a0 a1 Φ) : CtP Try.prog 44 [I a0, I a1] Φ :=
  ctP_by h 1000 [] mixed Try.func44 rfl (by kernel_rfl) (by kernel_rfl)

/-- vec.join[bool] -/
def P43a (b0 : List PV) (b1 : List PV) (Φ : List RV → Prop) : Prop :=
 Ln b0 (Ln b1 (Mk 1 (imax (b0.length : Int) (b1.length : Int)) (imax (b0.length : Int) (b1.length : Int)) (
 Ln (List.replicate ((imax (b0.length : Int) (b1.length : Int)).toNat) (B false)) (SmA (.pv (.sl false b0)) ∧ SmA (.pv (.sl false b1)) ∧ SmA (.pv (.fn (.func 44) [] [])) ∧ SmA (.pv (I ((imax (b0.length : Int) (b1.length : Int)).toNat : Int))) ∧ Lo (fun (L2 : List PV × Int × Unit → Prop) (v1 : List PV × Int × Unit) =>
 Fk (decide (v1.2.1 < ((imax (b0.length : Int) (b1.length : Int)).toNat : Int)))
 (∃ x3, Cl 46 [.sl false b0, I v1.2.1] [.pv (I x3)] ∧
 ∃ x4, Cl 46 [.sl false b1, I v1.2.1] [.pv (I x4)] ∧
 ∃ x5, Cl 44 [I x3, I x4] [.pv (B x5)] ∧
 Rx v1.2.1 v1.1.length (
 Ld B v1.1 (0 + v1.2.1.toNat) fun x6 =>
 SmA (.pv (.sl false b0)) ∧ SmA (.pv (.sl false b1)) ∧ SmA (.pv (.fn (.func 44) [] [])) ∧ SmA (.pv (I ((imax (b0.length : Int) (b1.length : Int)).toNat : Int))) ∧ L2 (v1.1.set (0 + v1.2.1.toNat) (B x5), w64 (v1.2.1 + 1), ())))
 (Φ [.fresh 4 1 v1.1])) (List.replicate ((imax (b0.length : Int) (b1.length : Int)).toNat) (B false), 0, ())))))
theorem t43a (b0 : List PV) (b1 : List PV) {Φ : List RV → Prop} (h : P43a b0 b1 Φ) : CtP Try.prog 43 [.sl false b0, .sl false b1, .fn (.func 44) [] []] Φ :=
  ctP_by h 1000 [(1005, .mk), (1997, .lens [0, 1]), (2997, .lens [7]), (3000, .fork [] []), (3999, .loop [.k 0 (.pv (.sl false b0)), .k 1 (.pv (.sl false b1)), .k 2 (.pv (.fn (.func 44) [] [])), .r 7 4 1, .k 16 (.pv (I ((imax (b0.length : Int) (b1.length : Int)).toNat : Int))), .c 17 (.int .i64)]), (5005, .call [.pv (.int .i64)]), (5008, .call [.pv (.int .i64)]), (5009, .call [.pv .bool]), (5010, .ixr), (5011, .st Bool B)] mixed Try.func43 rfl (by kernel_rfl) (by kernel_rfl)

/-- vec.Below -/
def P38 (a0 : List PV) (a1 : List PV) (Φ : List RV → Prop) : Prop :=
 ∃ x1, Cl 43 [.sl false a0, .sl false a1, .fn (.func 44) [] []] [.pv (.sl false (List.map B x1))] ∧
 ∃ x2, Cl 37 [.sl false (List.map B x1), B false] [.pv (B x2)] ∧
 Φ [.pv (B (!x2))]
theorem t38 (a0 : List PV) (a1 : List PV) {Φ : List RV → Prop} (h : P38 a0 a1 Φ) : CtP Try.prog 38 [.sl false a0, .sl false a1] Φ :=
  ctP_by h 1000 [(1002, .call [.pv (.ty (List Bool) lB)]), (1003, .call [.pv .bool])] mixed Try.func38 rfl (by kernel_rfl) (by kernel_rfl)

/-- flush.counts$1 -/
def P40 (a0 : Int) (Φ : List RV → Prop) : Prop :=
 Φ [.pv (B (decide (4611686018427387904 < a0)))]
theorem t40 (a0 : Int) {Φ : List RV → Prop} (h : P40 a0 Φ) : CtP Try.prog 40 [I a0] Φ :=
  ctP_by h 1000 [] mixed Try.func40 rfl (by kernel_rfl) (by kernel_rfl)

/-- slices.IndexFunc[[]int,int] -/
def P45a (b0 : List PV) (Φ : List RV → Prop) : Prop :=
 Ln b0 (SmA (.pv (.sl false b0)) ∧ SmA (.pv (.fn (.func 40) [] [])) ∧ SmA (.pv (I (b0.length : Int))) ∧ Lo (fun (L2 : Int × Unit → Prop) (v1 : Int × Unit) =>
 Fk (decide (v1.1 < (b0.length : Int)))
 (Ix I b0 v1.1 fun x3 =>
 ∃ x4, Cl 40 [I x3] [.pv (B x4)] ∧
 Fk x4
 (Φ [.pv (I v1.1)])
 (SmA (.pv (.sl false b0)) ∧ SmA (.pv (.fn (.func 40) [] [])) ∧ SmA (.pv (I (b0.length : Int))) ∧ L2 (w64 (v1.1 + 1), ())))
 (Φ [.pv (I (-1))])) (0, ()))
theorem t45a (b0 : List PV) {Φ : List RV → Prop} (h : P45a b0 Φ) : CtP Try.prog 45 [.sl false b0, .fn (.func 40) [] []] Φ :=
  ctP_by h 1000 [(1997, .lens [0]), (2000, .fork [] []), (2999, .loop [.k 0 (.pv (.sl false b0)), .k 1 (.pv (.fn (.func 40) [] [])), .k 7 (.pv (I (b0.length : Int))), .c 8 (.int .i64)]), (4003, .ix Int I), (4005, .callf [.pv .bool] [] [])] mixed Try.func45 rfl (by kernel_rfl) (by kernel_rfl)

/-- slices.ContainsFunc[[]int,int] -/
def P39a (b0 : List PV) (Φ : List RV → Prop) : Prop :=
 ∃ x1, Cl 45 [.sl false b0, .fn (.func 40) [] []] [.pv (I x1)] ∧
 Φ [.pv (B (decide (0 ≤ x1)))]
theorem t39a (b0 : List PV) {Φ : List RV → Prop} (h : P39a b0 Φ) : CtP Try.prog 39 [.sl false b0, .fn (.func 40) [] []] Φ :=
  ctP_by h 1000 [(1002, .call [.pv (.int .i64)])] mixed Try.func39 rfl (by kernel_rfl) (by kernel_rfl)

/-- flush.counts -/
def P28 (a0 : List PV) (Φ : List RV → Prop) : Prop :=
 Ln a0 (Mk 8 (a0.length : Int) (a0.length : Int) (
 ∃ x1, Cl 38 [.sl false (List.replicate ((a0.length : Int).toNat) (I 0)), .sl false a0] [.pv (B x1)] ∧
 Fk x1
 (∃ x2, Cl 39 [.sl false a0, .fn (.func 40) [] []] [.pv (B x2)] ∧
 Φ [.pv (B (!x2))])
 (Φ [.pv (B false)])))
theorem t28 (a0 : List PV) {Φ : List RV → Prop} (h : P28 a0 Φ) : CtP Try.prog 28 [.sl false a0] Φ :=
  ctP_by h 1000 [(1002, .mk), (1004, .call [.pv .bool]), (1005, .fork [] []), (1007, .call [.pv .bool]), (1997, .lens [0])] mixed Try.func28 rfl (by kernel_rfl) (by kernel_rfl)

/-- flush.Right -/
def P11 (a0 : Barrier) (a1 : Int) (Φ : List RV → Prop) : Prop :=
 Ln (List.map B a0.acked) (Ln (List.map I a0.count) (Ln (List.map I a0.l) (Fk (decide (a1 < 2))
 (Φ [.pv (B false)])
 (Fk (decide (64 < a1))
 (Φ [.pv (B false)])
 (Fk (((List.map B a0.acked).length : Int) != a1)
 (Φ [.pv (B false)])
 (Fk (((List.map I a0.count).length : Int) != a1)
 (Φ [.pv (B false)])
 (SmA (.pv (I a1)) ∧ SmA (.bp 65552 0) ∧ SmA (.pv (.sl false (List.map B a0.acked))) ∧ SmA (.pv (I ((List.map B a0.acked).length : Int))) ∧ SmA (.pv (B a0.on)) ∧ SmA (.pv (I a0.next)) ∧ SmA (.pv (.sl false (List.map B a0.acked))) ∧ SmA (.pv (.sl false (List.map I a0.count))) ∧ SmA (.pv (B a0.done)) ∧ SmA (.pv (.sl false (List.map I a0.l))) ∧ Lo (fun (L2 : Int × Unit × Unit → Prop) (v1 : Int × Unit × Unit) =>
 Fk (decide (v1.1 < ((List.map B a0.acked).length : Int)))
 (Jn (fun v3 : Int × Unit × Unit =>
 SmA (.pv (I a1)) ∧ SmA (.bp 65552 0) ∧ SmA (.pv (.sl false (List.map B a0.acked))) ∧ SmA (.pv (I ((List.map B a0.acked).length : Int))) ∧ SmA (.pv (B a0.on)) ∧ SmA (.pv (I a0.next)) ∧ SmA (.pv (.sl false (List.map B a0.acked))) ∧ SmA (.pv (.sl false (List.map I a0.count))) ∧ SmA (.pv (B a0.done)) ∧ SmA (.pv (.sl false (List.map I a0.l))) ∧ L2 (w64 (v3.1 + 1), (), ())) (fun j4 =>
 (fun j4 : Int × Unit × Unit → Prop =>
 Ix B (List.map B a0.acked) v1.1 fun x5 =>
 Fk (!x5)
 (Ix I (List.map I a0.count) v1.1 fun x6 =>
 Fk (x6 != 0)
 (Φ [.pv (B false)])
 (j4 (v1.1, (), ())))
 (j4 (v1.1, (), ()))) (fun v => SmA (.pv (I a1)) ∧ SmA (.bp 65552 0) ∧ SmA (.pv (.sl false (List.map B a0.acked))) ∧ SmA (.pv (I ((List.map B a0.acked).length : Int))) ∧ SmA (.pv (B a0.on)) ∧ SmA (.pv (I a0.next)) ∧ SmA (.pv (.sl false (List.map B a0.acked))) ∧ SmA (.pv (.sl false (List.map I a0.count))) ∧ SmA (.pv (B a0.done)) ∧ SmA (.pv (.sl false (List.map I a0.l))) ∧ j4 v)))
 (Fk (a0.next == 0)
 (Jn (fun v7 : Bool × Unit × Unit =>
 Fk v7.1
 (∃ x9, Cl 28 [.sl false (List.map I a0.count)] [.pv (B x9)] ∧
 Fk x9
 (∃ x10, Cl 28 [.sl false (List.map I a0.l)] [.pv (B x10)] ∧
 Φ [.pv (B x10)])
 (Φ [.pv (B false)]))
 (Φ [.pv (B false)])) (fun j8 =>
 (fun j8 : Bool × Unit × Unit → Prop =>
 Fk a0.done
 (j8 (((List.map I a0.l).length : Int) == a1, (), ()))
 (j8 (((List.map I a0.l).length : Int) == 0, (), ()))) (fun v => SmA (.bp 65552 0) ∧ SmA (.pv (B true)) ∧ SmA (.pv (B a0.on)) ∧ SmA (.pv (I a0.next)) ∧ SmA (.pv (.sl false (List.map B a0.acked))) ∧ SmA (.pv (.sl false (List.map I a0.count))) ∧ SmA (.pv (B a0.done)) ∧ SmA (.pv (.sl false (List.map I a0.l))) ∧ j8 v)))
 (Fk a0.on
 (Jn (fun v11 : Bool × Unit × Unit =>
 Fk (a0.next == 1)
 (Fk v11.1
 (∃ x13, Cl 28 [.sl false (List.map I a0.count)] [.pv (B x13)] ∧
 Fk x13
 (∃ x14, Cl 28 [.sl false (List.map I a0.l)] [.pv (B x14)] ∧
 Φ [.pv (B x14)])
 (Φ [.pv (B false)]))
 (Φ [.pv (B false)]))
 (Φ [.pv (B false)])) (fun j12 =>
 (fun j12 : Bool × Unit × Unit → Prop =>
 Fk a0.done
 (j12 (((List.map I a0.l).length : Int) == a1, (), ()))
 (j12 (((List.map I a0.l).length : Int) == 0, (), ()))) (fun v => SmA (.bp 65552 0) ∧ SmA (.pv (B (a0.next == 1))) ∧ SmA (.pv (B a0.on)) ∧ SmA (.pv (I a0.next)) ∧ SmA (.pv (.sl false (List.map B a0.acked))) ∧ SmA (.pv (.sl false (List.map I a0.count))) ∧ SmA (.pv (B a0.done)) ∧ SmA (.pv (.sl false (List.map I a0.l))) ∧ j12 v)))
 (Jn (fun v15 : Bool × Unit × Unit =>
 Φ [.pv (B false)]) (fun j16 =>
 (fun j16 : Bool × Unit × Unit → Prop =>
 Fk a0.done
 (j16 (((List.map I a0.l).length : Int) == a1, (), ()))
 (j16 (((List.map I a0.l).length : Int) == 0, (), ()))) (fun v => SmA (.bp 65552 0) ∧ SmA (.pv (B false)) ∧ SmA (.pv (B a0.on)) ∧ SmA (.pv (I a0.next)) ∧ SmA (.pv (.sl false (List.map B a0.acked))) ∧ SmA (.pv (.sl false (List.map I a0.count))) ∧ SmA (.pv (B a0.done)) ∧ SmA (.pv (.sl false (List.map I a0.l))) ∧ j16 v)))))) (0, (), ()))))))))
theorem t11 (a0 : Barrier) (a1 : Int) {Φ : List RV → Prop} (h : P11 a0 a1 Φ) : CtP Try.prog 11 [eBarrier a0, I a1] Φ :=
  ctP_by h 1000 [(1002, .fork [(1013, .off), (1019, .off), (1006, .off)] []), (1006, .fork [(1019, .off), (1013, .off)] []), (1013, .fork [(1019, .off)] []), (1019, .fork [] []), (1997, .lens [2]), (4000, .fork [] []), (4999, .loop [.k 1 (.pv (I a1)), .k 2 (.bp 65552 0), .k 30 (.pv (.sl false (List.map B a0.acked))), .k 31 (.pv (I ((List.map B a0.acked).length : Int))), .c 32 (.int .i64), .box 65552 true [.k (.pv (B a0.on)), .k (.pv (I a0.next)), .k (.pv (.sl false (List.map B a0.acked))), .k (.pv (.sl false (List.map I a0.count))), .k (.pv (B a0.done)), .k (.pv (.sl false (List.map I a0.l)))]]), (5001, .ix Bool B), (6002, .fork [] [(6009, .off)]), (6006, .ix Int I), (6009, .fork [] []), (8998, .join [.k 1 (.pv (I a1)), .k 2 (.bp 65552 0), .k 30 (.pv (.sl false (List.map B a0.acked))), .k 31 (.pv (I ((List.map B a0.acked).length : Int))), .c 32 (.int .i64), .box 65552 true [.k (.pv (B a0.on)), .k (.pv (I a0.next)), .k (.pv (.sl false (List.map B a0.acked))), .k (.pv (.sl false (List.map I a0.count))), .k (.pv (B a0.done)), .k (.pv (.sl false (List.map I a0.l)))]]), (9003, .fork [(13001, .off)] [(13998, .join [.k 2 (.bp 65552 0), .k 7 (.pv (B (a0.next == 1))), .c 8 .bool, .box 65552 true [.k (.pv (B a0.on)), .k (.pv (I a0.next)), .k (.pv (.sl false (List.map B a0.acked))), .k (.pv (.sl false (List.map I a0.count))), .k (.pv (B a0.done)), .k (.pv (.sl false (List.map I a0.l)))]])]), (9006, .fork [] [(13998, .join [.k 2 (.bp 65552 0), .k 7 (.pv (B false)), .c 8 .bool, .box 65552 true [.k (.pv (B a0.on)), .k (.pv (I a0.next)), .k (.pv (.sl false (List.map B a0.acked))), .k (.pv (.sl false (List.map I a0.count))), .k (.pv (B a0.done)), .k (.pv (.sl false (List.map I a0.l)))]]), (13001, .off), (13004, .off), (13009, .off)]), (11001, .fork [] []), (13001, .fork [] [(13004, .off), (13009, .off)]), (13004, .fork [] [(13009, .off)]), (13007, .call [.pv .bool]), (13009, .fork [] []), (13012, .call [.pv .bool]), (13998, .join [.k 2 (.bp 65552 0), .k 7 (.pv (B true)), .c 8 .bool, .box 65552 true [.k (.pv (B a0.on)), .k (.pv (I a0.next)), .k (.pv (.sl false (List.map B a0.acked))), .k (.pv (.sl false (List.map I a0.count))), .k (.pv (B a0.done)), .k (.pv (.sl false (List.map I a0.l)))]])] mixed Try.func11 rfl (by kernel_rfl) (by kernel_rfl)

/-- slices.Equal[[]bool,bool] -/
def P29 (a0 : List PV) (a1 : List PV) (Φ : List RV → Prop) : Prop :=
 Ln a0 (Ln a1 (Fk ((a0.length : Int) != (a1.length : Int))
 (Φ [.pv (B false)])
 (SmA (.pv (.sl false a0)) ∧ SmA (.pv (.sl false a1)) ∧ SmA (.pv (I (a0.length : Int))) ∧ Lo (fun (L2 : Int × Unit → Prop) (v1 : Int × Unit) =>
 Fk (decide (v1.1 < (a0.length : Int)))
 (Ix B a0 v1.1 fun x3 =>
 Ix B a1 v1.1 fun x4 =>
 Fk (x3 != x4)
 (Φ [.pv (B false)])
 (SmA (.pv (.sl false a0)) ∧ SmA (.pv (.sl false a1)) ∧ SmA (.pv (I (a0.length : Int))) ∧ L2 (w64 (v1.1 + 1), ())))
 (Φ [.pv (B true)])) (0, ()))))
theorem t29 (a0 : List PV) (a1 : List PV) {Φ : List RV → Prop} (h : P29 a0 a1 Φ) : CtP Try.prog 29 [.sl false a0, .sl false a1] Φ :=
  ctP_by h 1000 [(1004, .fork [] []), (1997, .lens [0, 1]), (4000, .fork [] []), (4999, .loop [.k 0 (.pv (.sl false a0)), .k 1 (.pv (.sl false a1)), .k 12 (.pv (I (a0.length : Int))), .c 13 (.int .i64)]), (6002, .ix Bool B), (6006, .ix Bool B), (6008, .fork [] [])] mixed Try.func29 rfl (by kernel_rfl) (by kernel_rfl)

/-- flush.Same -/
def P12 (a0 : Barrier) (a1 : Barrier) (Φ : List RV → Prop) : Prop :=
 Fk (a0.on == a1.on)
 (Fk (a0.next == a1.next)
 (∃ x1, Cl 29 [.sl false (List.map B a0.acked), .sl false (List.map B a1.acked)] [.pv (B x1)] ∧
 Fk x1
 (∃ x2, Cl 30 [.sl false (List.map I a0.count), .sl false (List.map I a1.count)] [.pv (B x2)] ∧
 Fk x2
 (Fk (a0.done == a1.done)
 (∃ x3, Cl 30 [.sl false (List.map I a0.l), .sl false (List.map I a1.l)] [.pv (B x3)] ∧
 Φ [.pv (B x3)])
 (Φ [.pv (B false)]))
 (Φ [.pv (B false)]))
 (Φ [.pv (B false)]))
 (Φ [.pv (B false)]))
 (Φ [.pv (B false)])
theorem t12 (a0 : Barrier) (a1 : Barrier) {Φ : List RV → Prop} (h : P12 a0 a1 Φ) : CtP Try.prog 12 [eBarrier a0, eBarrier a1] Φ :=
  ctP_by h 1000 [(1005, .fork [] [(1012, .off), (1019, .off), (1026, .off), (1033, .off)]), (1012, .fork [] [(1019, .off), (1026, .off), (1033, .off)]), (1017, .call [.pv .bool]), (1019, .fork [] [(1026, .off), (1033, .off)]), (1024, .call [.pv .bool]), (1026, .fork [] [(1033, .off)]), (1033, .fork [] []), (1038, .call [.pv .bool])] mixed Try.func12 rfl (by kernel_rfl) (by kernel_rfl)

/-- precentorlaw19.shown -/
def P8  (Φ : List RV → Prop) : Prop :=
 ∃ x1, Cl 19 [I 2] [.pv (eBarrier x1)] ∧
 ∃ x2 x3, Cl 15 [eBarrier x1, I 0, .agg [I 4, I 1, I 0, I 1, I 0, I 0, .sl true [], .sl true []]] [.pv (eBarrier x2), .pv (I x3)] ∧
 ∃ x4 x5, Cl 17 [eBarrier x2, I 1, I 4] [.pv (eItem x4), .pv (B x5)] ∧
 ∃ x6 x7, Cl 15 [eBarrier x2, I 0, .agg [I 5, I 2, I 0, I 0, I 0, I 3, .sl true [], .sl true []]] [.pv (eBarrier x6), .pv (I x7)] ∧
 ∃ x8 x9, Cl 15 [eBarrier x6, I 1, .agg [I 5, I 1, I 0, I 0, I 0, I 4, .sl true [], .sl true []]] [.pv (eBarrier x8), .pv (I x9)] ∧
 ∃ x10 x11, Cl 17 [eBarrier x8, I 0, I 3] [.pv (eItem x10), .pv (B x11)] ∧
 ∃ x12 x13, Cl 17 [eBarrier x8, I 1, I 4] [.pv (eItem x12), .pv (B x13)] ∧
 ∃ x14 x15, Cl 15 [eBarrier x8, I 0, .agg [I 6, I 3, I 0, I 0, I 0, I 0, .sl false [I 3, I 4], .sl true []]] [.pv (eBarrier x14), .pv (I x15)] ∧
 ∃ x16 x17, Cl 15 [eBarrier x8, I 1, .agg [I 6, I 3, I 0, I 0, I 0, I 0, .sl false [I 3, I 4], .sl true []]] [.pv (eBarrier x16), .pv (I x17)] ∧
 ∃ x18 x19, Cl 15 [eBarrier x8, I 1, .agg [I 3, I 3, I 0, I 0, I 0, I 0, .sl true [], .sl true []]] [.pv (eBarrier x18), .pv (I x19)] ∧
 Fk (x3 == 0)
 (Fk x2.on
 (Fk (x2.next == 1)
 (Fk x5
 (Fk (x4.kind == 5)
 (Fk (x4.count == 4)
 (Fk (x7 == 0)
 (Fk (x9 == 0)
 (Fk x11
 (Fk (x10.kind == 6)
 (∃ x20, Cl 26 [.sl false (List.map I x10.l), .sl false [I 3, I 4]] [.pv (B x20)] ∧
 Fk x20
 (Fk (!x13)
 (Fk (x15 == 0)
 (∃ x21, Cl 23 [eBarrier x14] [.pv (B x21)] ∧
 Fk x21
 (∃ x22, Cl 23 [eBarrier x8] [.pv (B x22)] ∧
 Fk (!x22)
 (∃ x23, Cl 21 [eBarrier x8] [.pv (B x23)] ∧
 Fk x23
 (∃ x24, Cl 21 [eBarrier x6] [.pv (B x24)] ∧
 Fk (!x24)
 (Fk (x17 == 2)
 (Fk (x19 == 1)
 (∃ x25, Cl 11 [eBarrier x14, I 2] [.pv (B x25)] ∧
 Fk x25
 (∃ x26, Cl 11 [eBarrier x14, I 3] [.pv (B x26)] ∧
 Fk (!x26)
 (∃ x27, Cl 12 [eBarrier x14, eBarrier x14] [.pv (B x27)] ∧
 Fk x27
 (∃ x28, Cl 12 [eBarrier x14, eBarrier x8] [.pv (B x28)] ∧
 Φ [.pv (B (!x28))])
 (Φ [.pv (B false)]))
 (Φ [.pv (B false)]))
 (Φ [.pv (B false)]))
 (Φ [.pv (B false)]))
 (Φ [.pv (B false)]))
 (Φ [.pv (B false)]))
 (Φ [.pv (B false)]))
 (Φ [.pv (B false)]))
 (Φ [.pv (B false)]))
 (Φ [.pv (B false)]))
 (Φ [.pv (B false)]))
 (Φ [.pv (B false)]))
 (Φ [.pv (B false)]))
 (Φ [.pv (B false)]))
 (Φ [.pv (B false)]))
 (Φ [.pv (B false)]))
 (Φ [.pv (B false)]))
 (Φ [.pv (B false)]))
 (Φ [.pv (B false)]))
 (Φ [.pv (B false)]))
 (Φ [.pv (B false)]))
 (Φ [.pv (B false)])
theorem t8  {Φ : List RV → Prop} (h : P8  Φ) : CtP Try.prog 8 [] Φ :=
  ctP_by h 1000 [(1000, .call [.pv (.ty Barrier eBarrier)]), (2002, .call [.pv (.ty Barrier eBarrier), .pv (.int .i64)]), (3001, .call [.pv (.ty Item eItem), .pv .bool]), (4002, .call [.pv (.ty Barrier eBarrier), .pv (.int .i64)]), (5002, .call [.pv (.ty Barrier eBarrier), .pv (.int .i64)]), (6001, .call [.pv (.ty Item eItem), .pv .bool]), (7001, .call [.pv (.ty Item eItem), .pv .bool]), (8003, .call [.pv (.ty Barrier eBarrier), .pv (.int .i64)]), (9003, .call [.pv (.ty Barrier eBarrier), .pv (.int .i64)]), (10002, .call [.pv (.ty Barrier eBarrier), .pv (.int .i64)]), (11002, .fork [] [(11006, .off), (11011, .off), (11014, .off), (11019, .off), (11024, .off), (11028, .off), (11032, .off), (11035, .off), (11040, .off), (11046, .off), (11050, .off), (11054, .off), (11058, .off), (11063, .off), (11067, .off), (11072, .off), (11076, .off), (11080, .off), (11084, .off), (11089, .off), (11094, .off)]), (11006, .fork [] [(11011, .off), (11014, .off), (11019, .off), (11024, .off), (11028, .off), (11032, .off), (11035, .off), (11040, .off), (11046, .off), (11050, .off), (11054, .off), (11058, .off), (11063, .off), (11067, .off), (11072, .off), (11076, .off), (11080, .off), (11084, .off), (11089, .off), (11094, .off)]), (11011, .fork [] [(11014, .off), (11019, .off), (11024, .off), (11028, .off), (11032, .off), (11035, .off), (11040, .off), (11046, .off), (11050, .off), (11054, .off), (11058, .off), (11063, .off), (11067, .off), (11072, .off), (11076, .off), (11080, .off), (11084, .off), (11089, .off), (11094, .off)]), (11014, .fork [] [(11019, .off), (11024, .off), (11028, .off), (11032, .off), (11035, .off), (11040, .off), (11046, .off), (11050, .off), (11054, .off), (11058, .off), (11063, .off), (11067, .off), (11072, .off), (11076, .off), (11080, .off), (11084, .off), (11089, .off), (11094, .off)]), (11019, .fork [] [(11024, .off), (11028, .off), (11032, .off), (11035, .off), (11040, .off), (11046, .off), (11050, .off), (11054, .off), (11058, .off), (11063, .off), (11067, .off), (11072, .off), (11076, .off), (11080, .off), (11084, .off), (11089, .off), (11094, .off)]), (11024, .fork [] [(11028, .off), (11032, .off), (11035, .off), (11040, .off), (11046, .off), (11050, .off), (11054, .off), (11058, .off), (11063, .off), (11067, .off), (11072, .off), (11076, .off), (11080, .off), (11084, .off), (11089, .off), (11094, .off)]), (11028, .fork [] [(11032, .off), (11035, .off), (11040, .off), (11046, .off), (11050, .off), (11054, .off), (11058, .off), (11063, .off), (11067, .off), (11072, .off), (11076, .off), (11080, .off), (11084, .off), (11089, .off), (11094, .off)]), (11032, .fork [] [(11035, .off), (11040, .off), (11046, .off), (11050, .off), (11054, .off), (11058, .off), (11063, .off), (11067, .off), (11072, .off), (11076, .off), (11080, .off), (11084, .off), (11089, .off), (11094, .off)]), (11035, .fork [] [(11040, .off), (11046, .off), (11050, .off), (11054, .off), (11058, .off), (11063, .off), (11067, .off), (11072, .off), (11076, .off), (11080, .off), (11084, .off), (11089, .off), (11094, .off)]), (11040, .fork [] [(11046, .off), (11050, .off), (11054, .off), (11058, .off), (11063, .off), (11067, .off), (11072, .off), (11076, .off), (11080, .off), (11084, .off), (11089, .off), (11094, .off)]), (11044, .call [.pv .bool]), (11046, .fork [] [(11050, .off), (11054, .off), (11058, .off), (11063, .off), (11067, .off), (11072, .off), (11076, .off), (11080, .off), (11084, .off), (11089, .off), (11094, .off)]), (11050, .fork [] [(11054, .off), (11058, .off), (11063, .off), (11067, .off), (11072, .off), (11076, .off), (11080, .off), (11084, .off), (11089, .off), (11094, .off)]), (11054, .fork [] [(11058, .off), (11063, .off), (11067, .off), (11072, .off), (11076, .off), (11080, .off), (11084, .off), (11089, .off), (11094, .off)]), (11056, .call [.pv .bool]), (11058, .fork [] [(11063, .off), (11067, .off), (11072, .off), (11076, .off), (11080, .off), (11084, .off), (11089, .off), (11094, .off)]), (11060, .call [.pv .bool]), (11063, .fork [] [(11067, .off), (11072, .off), (11076, .off), (11080, .off), (11084, .off), (11089, .off), (11094, .off)]), (11065, .call [.pv .bool]), (11067, .fork [] [(11072, .off), (11076, .off), (11080, .off), (11084, .off), (11089, .off), (11094, .off)]), (11069, .call [.pv .bool]), (11072, .fork [] [(11076, .off), (11080, .off), (11084, .off), (11089, .off), (11094, .off)]), (11076, .fork [] [(11080, .off), (11084, .off), (11089, .off), (11094, .off)]), (11080, .fork [] [(11084, .off), (11089, .off), (11094, .off)]), (11082, .call [.pv .bool]), (11084, .fork [] [(11089, .off), (11094, .off)]), (11086, .call [.pv .bool]), (11089, .fork [] [(11094, .off)]), (11092, .call [.pv .bool]), (11094, .fork [] []), (11097, .call [.pv .bool])] mixed Try.func8 rfl (by kernel_rfl) (by kernel_rfl)

/-- precentorref19.Few -/
def P9 (a0 : Barrier) (Φ : List RV → Prop) : Prop :=
 Ln (List.map B a0.acked) (Ln (List.map I a0.count) (Ln (List.map I a0.l) (Fk (decide (((List.map B a0.acked).length : Int) ≤ 80))
 (Fk (decide (((List.map I a0.count).length : Int) ≤ 80))
 (Φ [.pv (B (decide (((List.map I a0.l).length : Int) ≤ 80)))])
 (Φ [.pv (B false)]))
 (Φ [.pv (B false)]))))
theorem t9 (a0 : Barrier) {Φ : List RV → Prop} (h : P9 a0 Φ) : CtP Try.prog 9 [eBarrier a0] Φ :=
  ctP_by h 1000 [(1004, .fork [] [(1010, .off)]), (1010, .fork [] []), (1997, .lens [1])] mixed Try.func9 rfl (by kernel_rfl) (by kernel_rfl)

/-- precentorref19.counts -/
def P27 (a0 : List PV) (Φ : List RV → Prop) : Prop :=
 SmA (.pv (.sl false a0)) ∧ Lo (fun (L2 : Int × Unit → Prop) (v1 : Int × Unit) =>
 Ln a0 (Fk (decide (v1.1 < (a0.length : Int)))
 (Ix I a0 v1.1 fun x3 =>
 Fk (decide (x3 < 0))
 (Φ [.pv (B false)])
 (Ix I a0 v1.1 fun x4 =>
 Fk (decide (4611686018427387904 < x4))
 (Φ [.pv (B false)])
 (SmA (.pv (.sl false a0)) ∧ L2 (w64 (v1.1 + 1), ()))))
 (Φ [.pv (B true)]))) (0, ())
theorem t27 (a0 : List PV) {Φ : List RV → Prop} (h : P27 a0 Φ) : CtP Try.prog 27 [.sl false a0] Φ :=
  ctP_by h 1000 [(2003, .fork [] []), (2997, .lens [0]), (2999, .loop [.k 0 (.pv (.sl false a0)), .c 3 (.int .i64)]), (4002, .ix Int I), (4005, .fork [(4011, .off)] []), (4008, .ix Int I), (4011, .fork [] [])] mixed Try.func27 rfl (by kernel_rfl) (by kernel_rfl)

/-- precentorref19.Right -/
def P10 (a0 : Barrier) (a1 : Int) (Φ : List RV → Prop) : Prop :=
 Jn (fun v1 : Unit × Unit =>
 SmA (.pv (I a1)) ∧ SmA (.bp 65552 0) ∧ SmA (.pv (B a0.on)) ∧ SmA (.pv (I a0.next)) ∧ SmA (.pv (.sl false (List.map B a0.acked))) ∧ SmA (.pv (.sl false (List.map I a0.count))) ∧ SmA (.pv (B a0.done)) ∧ SmA (.pv (.sl false (List.map I a0.l))) ∧ Lo (fun (L4 : Int × Unit × Unit → Prop) (v3 : Int × Unit × Unit) =>
 Fk (decide (v3.1 < a1))
 (Jn (fun v5 : Int × Unit × Unit =>
 SmA (.pv (I a1)) ∧ SmA (.bp 65552 0) ∧ SmA (.pv (B a0.on)) ∧ SmA (.pv (I a0.next)) ∧ SmA (.pv (.sl false (List.map B a0.acked))) ∧ SmA (.pv (.sl false (List.map I a0.count))) ∧ SmA (.pv (B a0.done)) ∧ SmA (.pv (.sl false (List.map I a0.l))) ∧ L4 (w64 (v5.1 + 1), (), ())) (fun j6 =>
 (fun j6 : Int × Unit × Unit → Prop =>
 Ix B (List.map B a0.acked) v3.1 fun x7 =>
 Fk (!x7)
 (Ix I (List.map I a0.count) v3.1 fun x8 =>
 Fk (x8 != 0)
 (Φ [.pv (B false)])
 (j6 (v3.1, (), ())))
 (j6 (v3.1, (), ()))) (fun v => SmA (.pv (I a1)) ∧ SmA (.bp 65552 0) ∧ SmA (.pv (B a0.on)) ∧ SmA (.pv (I a0.next)) ∧ SmA (.pv (.sl false (List.map B a0.acked))) ∧ SmA (.pv (.sl false (List.map I a0.count))) ∧ SmA (.pv (B a0.done)) ∧ SmA (.pv (.sl false (List.map I a0.l))) ∧ j6 v)))
 (Jn (fun v9 : Unit × Unit =>
 ∃ x11, Cl 27 [.sl false (List.map I a0.count)] [.pv (B x11)] ∧
 ∃ x12, Cl 27 [.sl false (List.map I a0.l)] [.pv (B x12)] ∧
 Fk x11
 (Φ [.pv (B x12)])
 (Φ [.pv (B false)])) (fun j10 =>
 (fun j10 : Unit × Unit → Prop =>
 Ln (List.map B a0.acked) (Ln (List.map I a0.count) (Ln (List.map I a0.l) (Fk a0.done
 (Fk (((List.map I a0.l).length : Int) != a1)
 (Φ [.pv (B false)])
 (Fk (!a0.done)
 (Fk (decide (0 < ((List.map I a0.l).length : Int)))
 (Φ [.pv (B false)])
 (j10 ((), ())))
 (j10 ((), ()))))
 (Fk (!a0.done)
 (Fk (decide (0 < ((List.map I a0.l).length : Int)))
 (Φ [.pv (B false)])
 (j10 ((), ())))
 (j10 ((), ()))))))) (fun v => SmA (.bp 65552 0) ∧ SmA (.pv (B a0.on)) ∧ SmA (.pv (I a0.next)) ∧ SmA (.pv (.sl false (List.map B a0.acked))) ∧ SmA (.pv (.sl false (List.map I a0.count))) ∧ SmA (.pv (B a0.done)) ∧ SmA (.pv (.sl false (List.map I a0.l))) ∧ j10 v)))) (0, (), ())) (fun j2 =>
 (fun j2 : Unit × Unit → Prop =>
 Ln (List.map B a0.acked) (Ln (List.map I a0.count) (Ln (List.map I a0.l) (Fk (decide (a1 < 2))
 (Φ [.pv (B false)])
 (Fk (decide (64 < a1))
 (Φ [.pv (B false)])
 (Fk (((List.map B a0.acked).length : Int) != a1)
 (Φ [.pv (B false)])
 (Fk (((List.map I a0.count).length : Int) != a1)
 (Φ [.pv (B false)])
 (Fk (decide (a0.next < 0))
 (Φ [.pv (B false)])
 (Fk (decide (1 < a0.next))
 (Φ [.pv (B false)])
 (Fk (a0.next == 1)
 (Fk (!a0.on)
 (Φ [.pv (B false)])
 (j2 ((), ())))
 (j2 ((), ())))))))))))) (fun v => SmA (.pv (I a1)) ∧ SmA (.bp 65552 0) ∧ SmA (.pv (B a0.on)) ∧ SmA (.pv (I a0.next)) ∧ SmA (.pv (.sl false (List.map B a0.acked))) ∧ SmA (.pv (.sl false (List.map I a0.count))) ∧ SmA (.pv (B a0.done)) ∧ SmA (.pv (.sl false (List.map I a0.l))) ∧ j2 v))
theorem t10 (a0 : Barrier) (a1 : Int) {Φ : List RV → Prop} (h : P10 a0 a1 Φ) : CtP Try.prog 10 [eBarrier a0, I a1] Φ :=
  ctP_by h 1000 [(1002, .fork [(1013, .off), (1020, .off), (1025, .off), (1030, .off), (1039, .off), (1006, .off)] []), (1006, .fork [(1020, .off), (1025, .off), (1030, .off), (1039, .off), (1013, .off)] []), (1013, .fork [(1025, .off), (1030, .off), (1039, .off), (1020, .off)] []), (1020, .fork [(1030, .off), (1039, .off), (1025, .off)] []), (1025, .fork [(1039, .off), (1030, .off)] []), (1030, .fork [(1039, .off)] []), (1034, .fork [] [(1039, .off)]), (1039, .fork [] []), (1997, .lens [2]), (3998, .join [.k 1 (.pv (I a1)), .k 2 (.bp 65552 0), .box 65552 true [.k (.pv (B a0.on)), .k (.pv (I a0.next)), .k (.pv (.sl false (List.map B a0.acked))), .k (.pv (.sl false (List.map I a0.count))), .k (.pv (B a0.done)), .k (.pv (.sl false (List.map I a0.l)))]]), (4002, .fork [] []), (4999, .loop [.k 1 (.pv (I a1)), .k 2 (.bp 65552 0), .c 5 (.int .i64), .box 65552 true [.k (.pv (B a0.on)), .k (.pv (I a0.next)), .k (.pv (.sl false (List.map B a0.acked))), .k (.pv (.sl false (List.map I a0.count))), .k (.pv (B a0.done)), .k (.pv (.sl false (List.map I a0.l)))]]), (5998, .join [.k 1 (.pv (I a1)), .k 2 (.bp 65552 0), .c 5 (.int .i64), .box 65552 true [.k (.pv (B a0.on)), .k (.pv (I a0.next)), .k (.pv (.sl false (List.map B a0.acked))), .k (.pv (.sl false (List.map I a0.count))), .k (.pv (B a0.done)), .k (.pv (.sl false (List.map I a0.l)))]]), (6003, .ix Bool B), (6006, .fork [] [(6013, .off)]), (6010, .ix Int I), (6013, .fork [] []), (8002, .fork [] [(8009, .off)]), (8009, .fork [(8019, .off)] []), (8013, .fork [] [(8019, .off)]), (8019, .fork [] []), (8997, .lens [2]), (10002, .call [.pv .bool]), (10998, .join [.k 2 (.bp 65552 0), .box 65552 true [.k (.pv (B a0.on)), .k (.pv (I a0.next)), .k (.pv (.sl false (List.map B a0.acked))), .k (.pv (.sl false (List.map I a0.count))), .k (.pv (B a0.done)), .k (.pv (.sl false (List.map I a0.l)))]]), (11002, .call [.pv .bool]), (12001, .fork [] [])] mixed Try.func10 rfl (by kernel_rfl) (by kernel_rfl)

/-- precentorref19.yes -/
def P31 (a0 : List PV) (a1 : List PV) (Φ : List RV → Prop) : Prop :=
 Ln a0 (Ln a1 (Fk ((a0.length : Int) != (a1.length : Int))
 (Φ [.pv (B false)])
 (SmA (.pv (.sl false a0)) ∧ SmA (.pv (.sl false a1)) ∧ Lo (fun (L2 : Int × Unit → Prop) (v1 : Int × Unit) =>
 Fk (decide (v1.1 < (a0.length : Int)))
 (Ix B a0 v1.1 fun x3 =>
 Ix B a1 v1.1 fun x4 =>
 Fk (x3 != x4)
 (Φ [.pv (B false)])
 (SmA (.pv (.sl false a0)) ∧ SmA (.pv (.sl false a1)) ∧ L2 (w64 (v1.1 + 1), ())))
 (Φ [.pv (B true)])) (0, ()))))
theorem t31 (a0 : List PV) (a1 : List PV) {Φ : List RV → Prop} (h : P31 a0 a1 Φ) : CtP Try.prog 31 [.sl false a0, .sl false a1] Φ :=
  ctP_by h 1000 [(1004, .fork [] []), (1997, .lens [0, 1]), (4003, .fork [] []), (4999, .loop [.k 0 (.pv (.sl false a0)), .k 1 (.pv (.sl false a1)), .c 5 (.int .i64)]), (6002, .ix Bool B), (6006, .ix Bool B), (6008, .fork [] [])] mixed Try.func31 rfl (by kernel_rfl) (by kernel_rfl)

/-- precentorref19.Same -/
def P13 (a0 : Barrier) (a1 : Barrier) (Φ : List RV → Prop) : Prop :=
 ∃ x1, Cl 31 [.sl false (List.map B a0.acked), .sl false (List.map B a1.acked)] [.pv (B x1)] ∧
 ∃ x2, Cl 26 [.sl false (List.map I a0.count), .sl false (List.map I a1.count)] [.pv (B x2)] ∧
 ∃ x3, Cl 26 [.sl false (List.map I a0.l), .sl false (List.map I a1.l)] [.pv (B x3)] ∧
 Fk x1
 (Fk x2
 (Fk x3
 (Fk (a0.on == a1.on)
 (Fk (a0.next == a1.next)
 (Φ [.pv (B (a0.done == a1.done))])
 (Φ [.pv (B false)]))
 (Φ [.pv (B false)]))
 (Φ [.pv (B false)]))
 (Φ [.pv (B false)]))
 (Φ [.pv (B false)])
theorem t13 (a0 : Barrier) (a1 : Barrier) {Φ : List RV → Prop} (h : P13 a0 a1 Φ) : CtP Try.prog 13 [eBarrier a0, eBarrier a1] Φ :=
  ctP_by h 1000 [(1004, .call [.pv .bool]), (2004, .call [.pv .bool]), (3004, .call [.pv .bool]), (4001, .fork [] [(4004, .off), (4007, .off), (4014, .off), (4021, .off)]), (4004, .fork [] [(4007, .off), (4014, .off), (4021, .off)]), (4007, .fork [] [(4014, .off), (4021, .off)]), (4014, .fork [] [(4021, .off)]), (4021, .fork [] [])] mixed Try.func13 rfl (by kernel_rfl) (by kernel_rfl)

/-- precentorref03.in -/
def P32 (a0 : List PV) (a1 : Int) (Φ : List RV → Prop) : Prop :=
 SmA (.pv (.sl false a0)) ∧ SmA (.pv (I a1)) ∧ Lo (fun (L2 : Int × Unit → Prop) (v1 : Int × Unit) =>
 Ln a0 (Fk (decide (v1.1 < (a0.length : Int)))
 (Ix I a0 v1.1 fun x3 =>
 Fk (decide (x3 < 0))
 (Φ [.pv (B false)])
 (Ix I a0 v1.1 fun x4 =>
 Fk (decide (a1 < x4))
 (Φ [.pv (B false)])
 (SmA (.pv (.sl false a0)) ∧ SmA (.pv (I a1)) ∧ L2 (w64 (v1.1 + 1), ()))))
 (Φ [.pv (B true)]))) (0, ())
theorem t32 (a0 : List PV) (a1 : Int) {Φ : List RV → Prop} (h : P32 a0 a1 Φ) : CtP Try.prog 32 [.sl false a0, I a1] Φ :=
  ctP_by h 1000 [(2003, .fork [] []), (2997, .lens [0]), (2999, .loop [.k 0 (.pv (.sl false a0)), .k 1 (.pv (I a1)), .c 5 (.int .i64)]), (4002, .ix Int I), (4005, .fork [(4012, .off)] []), (4008, .ix Int I), (4012, .fork [] [])] mixed Try.func32 rfl (by kernel_rfl) (by kernel_rfl)

/-- precentorref03.May -/
def P14 (a0 : Item) (Φ : List RV → Prop) : Prop :=
 Fk (decide (a0.seq < 1))
 (Φ [.pv (B false)])
 (Fk (decide (4611686018427387904 < a0.seq))
 (Φ [.pv (B false)])
 (Fk (decide (a0.epoch < 0))
 (Φ [.pv (B false)])
 (Fk (decide (4611686018427387904 < a0.epoch))
 (Φ [.pv (B false)])
 (Ln (List.map I a0.l) (Ln (List.map U8 a0.body) (Fk (((List.map I a0.l).length : Int) == 0)
 (Fk (a0.kind == 1)
 (Fk (decide (1 ≤ a0.total))
 (Fk (decide (a0.total ≤ 32))
 (Fk (decide (0 ≤ a0.index))
 (Fk (decide (a0.index < a0.total))
 (Fk (a0.count == 0)
 (Fk (((List.map I a0.l).length : Int) == 0)
 (Φ [.pv (B (decide (((List.map U8 a0.body).length : Int) ≤ 1024)))])
 (Φ [.pv (B false)]))
 (Φ [.pv (B false)]))
 (Φ [.pv (B false)]))
 (Φ [.pv (B false)]))
 (Φ [.pv (B false)]))
 (Φ [.pv (B false)]))
 (Fk (a0.kind == 2)
 (∃ x1, Cl 32 [.sl false (List.map I a0.l), I 63] [.pv (B x1)] ∧
 Fk x1
 (Fk (decide (0 ≤ a0.index))
 (Fk (decide (a0.index ≤ 1))
 (Fk (a0.total == 0)
 (Fk (a0.count == 0)
 (Fk (((List.map U8 a0.body).length : Int) == 0)
 (Fk (decide (1 ≤ ((List.map I a0.l).length : Int)))
 (Φ [.pv (B (decide (((List.map I a0.l).length : Int) ≤ 64)))])
 (Φ [.pv (B false)]))
 (Φ [.pv (B false)]))
 (Φ [.pv (B false)]))
 (Φ [.pv (B false)]))
 (Φ [.pv (B false)]))
 (Φ [.pv (B false)]))
 (Φ [.pv (B false)]))
 (Fk (a0.kind == 3)
 (Fk (((List.map U8 a0.body).length : Int) == 0)
 (Fk (a0.index == 0)
 (Fk (a0.total == 0)
 (Φ [.pv (B (a0.count == 0))])
 (Φ [.pv (B false)]))
 (Φ [.pv (B false)]))
 (Φ [.pv (B false)]))
 (Fk (a0.kind == 4)
 (Fk (((List.map U8 a0.body).length : Int) == 0)
 (Fk (decide (0 ≤ a0.index))
 (Fk (decide (a0.index ≤ 1))
 (Fk (a0.total == 0)
 (Φ [.pv (B (a0.count == 0))])
 (Φ [.pv (B false)]))
 (Φ [.pv (B false)]))
 (Φ [.pv (B false)]))
 (Φ [.pv (B false)]))
 (Fk (a0.kind == 5)
 (Fk (((List.map U8 a0.body).length : Int) == 0)
 (Fk (a0.index == 0)
 (Fk (a0.total == 0)
 (Fk (decide (0 ≤ a0.count))
 (Φ [.pv (B (decide (a0.count ≤ 4611686018427387904)))])
 (Φ [.pv (B false)]))
 (Φ [.pv (B false)]))
 (Φ [.pv (B false)]))
 (Φ [.pv (B false)]))
 (Fk (a0.kind == 6)
 (∃ x2, Cl 32 [.sl false (List.map I a0.l), I 4611686018427387904] [.pv (B x2)] ∧
 Fk x2
 (Fk (a0.index == 0)
 (Fk (a0.total == 0)
 (Fk (a0.count == 0)
 (Fk (((List.map U8 a0.body).length : Int) == 0)
 (Fk (decide (2 ≤ ((List.map I a0.l).length : Int)))
 (Φ [.pv (B (decide (((List.map I a0.l).length : Int) ≤ 64)))])
 (Φ [.pv (B false)]))
 (Φ [.pv (B false)]))
 (Φ [.pv (B false)]))
 (Φ [.pv (B false)]))
 (Φ [.pv (B false)]))
 (Φ [.pv (B false)]))
 (Φ [.pv (B false)])))))))
 (Fk (a0.kind == 1)
 (Fk (decide (1 ≤ a0.total))
 (Fk (decide (a0.total ≤ 32))
 (Fk (decide (0 ≤ a0.index))
 (Fk (decide (a0.index < a0.total))
 (Fk (a0.count == 0)
 (Fk (((List.map I a0.l).length : Int) == 0)
 (Φ [.pv (B (decide (((List.map U8 a0.body).length : Int) ≤ 1024)))])
 (Φ [.pv (B false)]))
 (Φ [.pv (B false)]))
 (Φ [.pv (B false)]))
 (Φ [.pv (B false)]))
 (Φ [.pv (B false)]))
 (Φ [.pv (B false)]))
 (Fk (a0.kind == 2)
 (∃ x3, Cl 32 [.sl false (List.map I a0.l), I 63] [.pv (B x3)] ∧
 Fk x3
 (Fk (decide (0 ≤ a0.index))
 (Fk (decide (a0.index ≤ 1))
 (Fk (a0.total == 0)
 (Fk (a0.count == 0)
 (Fk (((List.map U8 a0.body).length : Int) == 0)
 (Fk (decide (1 ≤ ((List.map I a0.l).length : Int)))
 (Φ [.pv (B (decide (((List.map I a0.l).length : Int) ≤ 64)))])
 (Φ [.pv (B false)]))
 (Φ [.pv (B false)]))
 (Φ [.pv (B false)]))
 (Φ [.pv (B false)]))
 (Φ [.pv (B false)]))
 (Φ [.pv (B false)]))
 (Φ [.pv (B false)]))
 (Fk (a0.kind == 3)
 (Φ [.pv (B false)])
 (Fk (a0.kind == 4)
 (Φ [.pv (B false)])
 (Fk (a0.kind == 5)
 (Φ [.pv (B false)])
 (Fk (a0.kind == 6)
 (∃ x4, Cl 32 [.sl false (List.map I a0.l), I 4611686018427387904] [.pv (B x4)] ∧
 Fk x4
 (Fk (a0.index == 0)
 (Fk (a0.total == 0)
 (Fk (a0.count == 0)
 (Fk (((List.map U8 a0.body).length : Int) == 0)
 (Fk (decide (2 ≤ ((List.map I a0.l).length : Int)))
 (Φ [.pv (B (decide (((List.map I a0.l).length : Int) ≤ 64)))])
 (Φ [.pv (B false)]))
 (Φ [.pv (B false)]))
 (Φ [.pv (B false)]))
 (Φ [.pv (B false)]))
 (Φ [.pv (B false)]))
 (Φ [.pv (B false)]))
 (Φ [.pv (B false)])))))))))))))
theorem t14 (a0 : Item) {Φ : List RV → Prop} (h : P14 a0 Φ) : CtP Try.prog 14 [eItem a0] Φ :=
  ctP_by h 1000 [(1003, .fork [(1013, .off), (1017, .off), (1008, .off)] []), (1008, .fork [(1017, .off), (1013, .off)] []), (1013, .fork [(1017, .off)] []), (1017, .fork [] []), (3004, .fork [] [(11001, .off), (11006, .off), (11011, .off), (13001, .off), (13006, .off), (13011, .off), (13016, .off), (15001, .off), (15006, .off), (15011, .off), (15016, .off)]), (3997, .lens [1]), (5001, .fork [] []), (6003, .fork [] [(6008, .off), (6013, .off), (6020, .off), (6025, .off), (6031, .off)]), (6008, .fork [] [(6013, .off), (6020, .off), (6025, .off), (6031, .off)]), (6013, .fork [] [(6020, .off), (6025, .off), (6031, .off)]), (6020, .fork [] [(6025, .off), (6031, .off)]), (6025, .fork [] [(6031, .off)]), (6031, .fork [] []), (7001, .fork [] []), (8002, .call [.pv .bool]), (9001, .fork [] [(9006, .off), (9011, .off), (9016, .off), (9021, .off), (9027, .off), (9033, .off)]), (9006, .fork [] [(9011, .off), (9016, .off), (9021, .off), (9027, .off), (9033, .off)]), (9011, .fork [] [(9016, .off), (9021, .off), (9027, .off), (9033, .off)]), (9016, .fork [] [(9021, .off), (9027, .off), (9033, .off)]), (9021, .fork [] [(9027, .off), (9033, .off)]), (9027, .fork [] [(9033, .off)]), (9033, .fork [] []), (10001, .fork [] []), (11001, .fork [] [(11006, .off), (11011, .off)]), (11006, .fork [] [(11011, .off)]), (11011, .fork [] []), (12001, .fork [] []), (13001, .fork [] [(13006, .off), (13011, .off), (13016, .off)]), (13006, .fork [] [(13011, .off), (13016, .off)]), (13011, .fork [] [(13016, .off)]), (13016, .fork [] []), (14001, .fork [] []), (15001, .fork [] [(15006, .off), (15011, .off), (15016, .off)]), (15006, .fork [] [(15011, .off), (15016, .off)]), (15011, .fork [] [(15016, .off)]), (15016, .fork [] []), (16001, .fork [] []), (17002, .call [.pv .bool]), (18001, .fork [] [(18006, .off), (18011, .off), (18016, .off), (18022, .off), (18028, .off)]), (18006, .fork [] [(18011, .off), (18016, .off), (18022, .off), (18028, .off)]), (18011, .fork [] [(18016, .off), (18022, .off), (18028, .off)]), (18016, .fork [] [(18022, .off), (18028, .off)]), (18022, .fork [] [(18028, .off)]), (18028, .fork [] [])] mixed Try.func14 rfl (by kernel_rfl) (by kernel_rfl)

/-- precentorref19.Hear -/
def P16 (a0 : Barrier) (a1 : Int) (a2 : Item) (Φ : List RV → Prop) : Prop :=
 Ok (okNews 1 (List.map B a0.acked)) (Sz 0 ((List.map B a0.acked).length) 1 (
 Ok (okNews 1 (List.map I a0.count)) (Sz 0 ((List.map I a0.count).length) 8 (
 Jn (fun v1 : Unit × (Bool × Int × (List PV) × (List PV) × Bool × (List PV) × Unit) × Unit =>
 Φ [.pv (.agg [B v1.2.1.1, I v1.2.1.2.1, .sl false v1.2.1.2.2.1, .sl false v1.2.1.2.2.2.1, B v1.2.1.2.2.2.2.1, .sl false v1.2.1.2.2.2.2.2.1]), .pv (I 0)]) (fun j2 =>
 (fun j2 : Unit × (Bool × Int × (List PV) × (List PV) × Bool × (List PV) × Unit) × Unit → Prop =>
 Fk (a2.kind == 4)
 (Fk (a1 != 0)
 (Φ [.pv (eBarrier a0), .pv (I 2)])
 (Fk a0.on
 (Φ [.pv (eBarrier a0), .pv (I 2)])
 (j2 ((), (true, a2.index, List.map B a0.acked, List.map I a0.count, a0.done, List.map I a0.l, ()), ()))))
 (Fk (a2.kind == 5)
 (Ix B (List.map B a0.acked) a1 fun x3 =>
 Fk x3
 (Φ [.pv (eBarrier a0), .pv (I 2)])
 (Rx a1 (0 + (List.map B a0.acked).length) (
 Ld B (List.map B a0.acked) (0 + a1.toNat) fun x4 =>
 Rx a1 (0 + (List.map I a0.count).length) (
 Ld I (List.map I a0.count) (0 + a1.toNat) fun x5 =>
 j2 ((), (a0.on, a0.next, (List.map B a0.acked).set (0 + a1.toNat) (B true), (List.map I a0.count).set (0 + a1.toNat) (I a2.count), a0.done, List.map I a0.l, ()), ())))))
 (Fk (a2.kind == 6)
 (Ln (List.map I a2.l) (Ln (List.map U8 a2.body) (Ln (List.map B a0.acked) (Ln (List.map I a0.count) (Ln (List.map I a0.l) (Fk (a1 != 0)
 (Φ [.pv (eBarrier a0), .pv (I 2)])
 (Fk a0.done
 (Φ [.pv (eBarrier a0), .pv (I 2)])
 (Fk (((List.map I a2.l).length : Int) != ((List.map B a0.acked).length : Int))
 (Φ [.pv (eBarrier a0), .pv (I 2)])
 (Ok (okNews 1 (List.map I a2.l)) (Sz 0 ((List.map I a2.l).length) 8 (
 j2 ((), (a0.on, a0.next, List.map B a0.acked, List.map I a0.count, true, List.map I a2.l, ()), ()))))))))))))
 (Φ [.pv (eBarrier a0), .pv (I 1)])))) (fun v => SmA (.bp 65584 0) ∧ SmA (.bp 131136 0) ∧ SmA (.pv (B false)) ∧ SmA (.pv (I 0)) ∧ SmA (.pv (.sl true [])) ∧ SmA (.pv (.sl true [])) ∧ SmA (.pv (B false)) ∧ SmA (.pv (.sl true [])) ∧ j2 v))))))
theorem t16 (a0 : Barrier) (a1 : Int) (a2 : Item) {Φ : List RV → Prop} (h : P16 a0 a1 a2 Φ) : CtP Try.prog 16 [eBarrier a0, I a1, eItem a2] Φ :=
  ctP_by h 1000 [(1007, .app true false), (1011, .app true false), (4001, .fork [] []), (5002, .fork [(5005, .off)] []), (5005, .fork [] []), (9001, .fork [] []), (10003, .ix Bool B), (10004, .fork [] []), (12003, .ixr), (12004, .st Bool B), (13005, .ixr), (13006, .st Int I), (14001, .fork [] []), (15002, .fork [(15014, .off), (15006, .off)] []), (15006, .fork [(15014, .off)] []), (15014, .fork [] []), (15997, .lens [5, 3]), (18003, .app true false), (19998, .join [.k 6 (.bp 65584 0), .k 8 (.bp 131136 0), .box 65584 true [.k (.pv (B false)), .k (.pv (I 0)), .k (.pv (.sl true [])), .k (.pv (.sl true [])), .k (.pv (B false)), .k (.pv (.sl true []))], .box 131136 true [.h .bool, .h (.int .i64), .h .sl, .h .sl, .h .bool, .h .sl]])] mixed Try.func16 rfl (by kernel_rfl) (by kernel_rfl)

/-- precentorref19.Whole -/
def P22 (a0 : Barrier) (Φ : List RV → Prop) : Prop :=
 SmA (.bp 65544 0) ∧ SmA (.pv (B a0.on)) ∧ SmA (.pv (I a0.next)) ∧ SmA (.pv (.sl false (List.map B a0.acked))) ∧ SmA (.pv (.sl false (List.map I a0.count))) ∧ SmA (.pv (B a0.done)) ∧ SmA (.pv (.sl false (List.map I a0.l))) ∧ Lo (fun (L2 : Int × Unit × Unit → Prop) (v1 : Int × Unit × Unit) =>
 Ln (List.map B a0.acked) (Ln (List.map I a0.count) (Ln (List.map I a0.l) (Fk (decide (v1.1 < ((List.map B a0.acked).length : Int)))
 (Ix B (List.map B a0.acked) v1.1 fun x3 =>
 Fk (!x3)
 (Φ [.pv (B false)])
 (SmA (.bp 65544 0) ∧ SmA (.pv (B a0.on)) ∧ SmA (.pv (I a0.next)) ∧ SmA (.pv (.sl false (List.map B a0.acked))) ∧ SmA (.pv (.sl false (List.map I a0.count))) ∧ SmA (.pv (B a0.done)) ∧ SmA (.pv (.sl false (List.map I a0.l))) ∧ L2 (w64 (v1.1 + 1), (), ())))
 (Φ [.pv (B true)]))))) (0, (), ())
theorem t22 (a0 : Barrier) {Φ : List RV → Prop} (h : P22 a0 Φ) : CtP Try.prog 22 [eBarrier a0] Φ :=
  ctP_by h 1000 [(2004, .fork [] []), (2997, .lens [1]), (2999, .loop [.k 1 (.bp 65544 0), .c 3 (.int .i64), .box 65544 true [.k (.pv (B a0.on)), .k (.pv (I a0.next)), .k (.pv (.sl false (List.map B a0.acked))), .k (.pv (.sl false (List.map I a0.count))), .k (.pv (B a0.done)), .k (.pv (.sl false (List.map I a0.l)))]]), (4003, .ix Bool B), (4005, .fork [] [])] mixed Try.func22 rfl (by kernel_rfl) (by kernel_rfl)

/-- precentorref19.Say -/
def P18 (a0 : Barrier) (a1 : Int) (a2 : Int) (Φ : List RV → Prop) : Prop :=
 Fk (!a0.on)
 (Φ [.pv (.agg [I 0, I 0, I 0, I 0, I 0, I 0, .sl true [], .sl true []]), .pv (B false)])
 (Ix B (List.map B a0.acked) a1 fun x1 =>
 Fk (!x1)
 (Φ [.pv (.agg [I 5, I 0, I 0, I 0, I 0, I a2, .sl true [], .sl true []]), .pv (B true)])
 (∃ x2, Cl 22 [eBarrier a0] [.pv (B x2)] ∧
 Jn (fun v3 : Unit × Unit =>
 Φ [.pv (.agg [I 0, I 0, I 0, I 0, I 0, I 0, .sl true [], .sl true []]), .pv (B false)]) (fun j4 =>
 (fun j4 : Unit × Unit → Prop =>
 Fk (a1 == 0)
 (Fk x2
 (Fk (!a0.done)
 (Ok (okNews 1 (List.map I a0.count)) (Sz 0 ((List.map I a0.count).length) 8 (
 Φ [.pv (.agg [I 6, I 0, I 0, I 0, I 0, I 0, .sl false (List.map I a0.count), .sl true []]), .pv (B true)])))
 (j4 ((), ())))
 (j4 ((), ())))
 (j4 ((), ()))) (fun v => SmA (.bp 65584 0) ∧ SmA (.pv (I 0)) ∧ SmA (.pv (I 0)) ∧ SmA (.pv (I 0)) ∧ SmA (.pv (I 0)) ∧ SmA (.pv (I 0)) ∧ SmA (.pv (I 0)) ∧ SmA (.pv (.sl true [])) ∧ SmA (.pv (.sl true [])) ∧ j4 v))))
theorem t18 (a0 : Barrier) (a1 : Int) (a2 : Int) {Φ : List RV → Prop} (h : P18 a0 a1 a2 Φ) : CtP Try.prog 18 [eBarrier a0, I a1, I a2] Φ :=
  ctP_by h 1000 [(1002, .fork [] []), (3003, .ix Bool B), (3005, .fork [] []), (5001, .call [.pv .bool]), (6002, .fork [] [(6005, .off), (6009, .off)]), (6005, .fork [] [(6009, .off)]), (6009, .fork [] []), (7003, .app true false), (8998, .join [.k 6 (.bp 65584 0), .box 65584 true [.k (.pv (I 0)), .k (.pv (I 0)), .k (.pv (I 0)), .k (.pv (I 0)), .k (.pv (I 0)), .k (.pv (I 0)), .k (.pv (.sl true [])), .k (.pv (.sl true []))]])] mixed Try.func18 rfl (by kernel_rfl) (by kernel_rfl)

/-- precentorref19.New -/
def P20 (a0 : Int) (Φ : List RV → Prop) : Prop :=
 Mk 1 a0 a0 (
 Mk 8 a0 a0 (
 Φ [.pv (.agg [B false, I 0, .sl false (List.replicate a0.toNat (B false)), .sl false (List.replicate a0.toNat (I 0)), B false, .sl true []])]))
theorem t20 (a0 : Int) {Φ : List RV → Prop} (h : P20 a0 Φ) : CtP Try.prog 20 [I a0] Φ :=
  ctP_by h 1000 [(1001, .mk), (1003, .mk)] mixed Try.func20 rfl (by kernel_rfl) (by kernel_rfl)

/-- precentorref19.Ready -/
def P24 (a0 : Barrier) (Φ : List RV → Prop) : Prop :=
 ∃ x1, Cl 22 [eBarrier a0] [.pv (B x1)] ∧
 ∃ x2, Cl 26 [.sl false (List.map I a0.l), .sl false (List.map I a0.count)] [.pv (B x2)] ∧
 Fk a0.on
 (Fk a0.done
 (Fk x1
 (Φ [.pv (B x2)])
 (Φ [.pv (B false)]))
 (Φ [.pv (B false)]))
 (Φ [.pv (B false)])
theorem t24 (a0 : Barrier) {Φ : List RV → Prop} (h : P24 a0 Φ) : CtP Try.prog 24 [eBarrier a0] Φ :=
  ctP_by h 1000 [(1001, .call [.pv .bool]), (2004, .call [.pv .bool]), (3002, .fork [] [(3006, .off), (3009, .off)]), (3006, .fork [] [(3009, .off)]), (3009, .fork [] [])] mixed Try.func24 rfl (by kernel_rfl) (by kernel_rfl)

/-- precentorref03.Same -/
def P25 (a0 : Item) (a1 : Item) (Φ : List RV → Prop) : Prop :=
 ∃ x1, Cl 26 [.sl false (List.map I a0.l), .sl false (List.map I a1.l)] [.pv (B x1)] ∧
 Fk x1
 (Fk (a0.kind == a1.kind)
 (Fk (a0.seq == a1.seq)
 (Fk (a0.epoch == a1.epoch)
 (Fk (a0.index == a1.index)
 (Fk (a0.total == a1.total)
 (Fk (a0.count == a1.count)
 (By (List.map U8 a0.body) (fun x2 =>
 By (List.map U8 a1.body) (fun x3 =>
 Φ [.pv (B ((⟨x2.toArray⟩ : ByteArray).toList == (⟨x3.toArray⟩ : ByteArray).toList))])))
 (Φ [.pv (B false)]))
 (Φ [.pv (B false)]))
 (Φ [.pv (B false)]))
 (Φ [.pv (B false)]))
 (Φ [.pv (B false)]))
 (Φ [.pv (B false)]))
 (Φ [.pv (B false)])
theorem t25 (a0 : Item) (a1 : Item) {Φ : List RV → Prop} (h : P25 a0 a1 Φ) : CtP Try.prog 25 [eItem a0, eItem a1] Φ :=
  ctP_by h 1000 [(1004, .call [.pv .bool]), (2001, .fork [] [(2008, .off), (2015, .off), (2022, .off), (2029, .off), (2036, .off), (2043, .off)]), (2008, .fork [] [(2015, .off), (2022, .off), (2029, .off), (2036, .off), (2043, .off)]), (2015, .fork [] [(2022, .off), (2029, .off), (2036, .off), (2043, .off)]), (2022, .fork [] [(2029, .off), (2036, .off), (2043, .off)]), (2029, .fork [] [(2036, .off), (2043, .off)]), (2036, .fork [] [(2043, .off)]), (2043, .fork [] []), (2046, .b2s), (2049, .b2s)] mixed Try.func25 rfl (by kernel_rfl) (by kernel_rfl)

/-- precentorlaw19.FlushTells -/
def P3 (a0 : FlushTellsIn) (Φ : List RV → Prop) : Prop :=
 ∃ x1, Cl 8 [] [.pv (B x1)] ∧
 ∃ x2, Cl 9 [eBarrier a0.b] [.pv (B x2)] ∧
 Fk (!x2)
 (Φ [.pv (B x1)])
 (∃ x3, Cl 9 [eBarrier a0.o] [.pv (B x3)] ∧
 Fk (!x3)
 (Φ [.pv (B x1)])
 (∃ x4, Cl 10 [eBarrier a0.b, I a0.n] [.pv (B x4)] ∧
 ∃ x5, Cl 11 [eBarrier a0.b, I a0.n] [.pv (B x5)] ∧
 Fk (x5 != x4)
 (Φ [.pv (B false)])
 (∃ x6, Cl 12 [eBarrier a0.b, eBarrier a0.o] [.pv (B x6)] ∧
 ∃ x7, Cl 13 [eBarrier a0.b, eBarrier a0.o] [.pv (B x7)] ∧
 Fk (x6 != x7)
 (Φ [.pv (B false)])
 (Fk (!x4)
 (Φ [.pv (B x1)])
 (∃ x8, Cl 14 [eItem a0.it] [.pv (B x8)] ∧
 Fk (!x8)
 (Φ [.pv (B x1)])
 (Nz a0.n (
 ∃ x9 x10, Cl 15 [eBarrier a0.b, I (Int.tmod (w64 (a0.from_.toNat : Int)) a0.n), eItem a0.it] [.pv (eBarrier x9), .pv (I x10)] ∧
 ∃ x11 x12, Cl 16 [eBarrier a0.b, I (Int.tmod (w64 (a0.from_.toNat : Int)) a0.n), eItem a0.it] [.pv (eBarrier x11), .pv (I x12)] ∧
 ∃ x13 x14, Cl 17 [eBarrier a0.b, I (Int.tmod (w64 (a0.from_.toNat : Int)) a0.n), I (w64 a0.sent)] [.pv (eItem x13), .pv (B x14)] ∧
 ∃ x15 x16, Cl 18 [eBarrier a0.b, I (Int.tmod (w64 (a0.from_.toNat : Int)) a0.n), I (w64 a0.sent)] [.pv (eItem x15), .pv (B x16)] ∧
 Fk x1
 (∃ x17, Cl 19 [I a0.n] [.pv (eBarrier x17)] ∧
 ∃ x18, Cl 20 [I a0.n] [.pv (eBarrier x18)] ∧
 ∃ x19, Cl 13 [eBarrier x17, eBarrier x18] [.pv (B x19)] ∧
 Fk x19
 (∃ x20, Cl 13 [eBarrier x9, eBarrier x11] [.pv (B x20)] ∧
 Fk x20
 (Fk (x10 == x12)
 (∃ x21, Cl 21 [eBarrier a0.b] [.pv (B x21)] ∧
 ∃ x22, Cl 22 [eBarrier a0.b] [.pv (B x22)] ∧
 Fk (x21 == x22)
 (∃ x23, Cl 23 [eBarrier a0.b] [.pv (B x23)] ∧
 ∃ x24, Cl 24 [eBarrier a0.b] [.pv (B x24)] ∧
 Fk (x23 == x24)
 (∃ x25, Cl 25 [eItem x13, eItem x15] [.pv (B x25)] ∧
 Fk x25
 (Φ [.pv (B (x14 == x16))])
 (Φ [.pv (B false)]))
 (Φ [.pv (B false)]))
 (Φ [.pv (B false)]))
 (Φ [.pv (B false)]))
 (Φ [.pv (B false)]))
 (Φ [.pv (B false)]))
 (Φ [.pv (B false)]))))))))
theorem t3 (a0 : FlushTellsIn) {Φ : List RV → Prop} (h : P3 a0 Φ) : CtP Try.prog 3 [eFlushTellsIn a0] Φ :=
  ctP_by h 1000 [(7000, .call [.pv .bool]), (8001, .call [.pv .bool]), (8003, .fork [(8007, .off)] []), (8005, .call [.pv .bool]), (8007, .fork [] []), (10002, .call [.pv .bool]), (11002, .call [.pv .bool]), (11005, .fork [(11013, .off)] []), (11008, .call [.pv .bool]), (11011, .call [.pv .bool]), (11013, .fork [] []), (13002, .fork [(13006, .off)] []), (13004, .call [.pv .bool]), (13006, .fork [] []), (15003, .div), (16003, .call [.pv (.ty Barrier eBarrier), .pv (.int .i64)]), (17003, .call [.pv (.ty Barrier eBarrier), .pv (.int .i64)]), (18004, .call [.pv (.ty Item eItem), .pv .bool]), (19004, .call [.pv (.ty Item eItem), .pv .bool]), (20001, .fork [] [(20008, .off), (20013, .off), (20018, .off), (20025, .off), (20032, .off), (20037, .off)]), (20003, .call [.pv (.ty Barrier eBarrier)]), (20005, .call [.pv (.ty Barrier eBarrier)]), (20006, .call [.pv .bool]), (20008, .fork [] [(20013, .off), (20018, .off), (20025, .off), (20032, .off), (20037, .off)]), (20011, .call [.pv .bool]), (20013, .fork [] [(20018, .off), (20025, .off), (20032, .off), (20037, .off)]), (20018, .fork [] [(20025, .off), (20032, .off), (20037, .off)]), (20020, .call [.pv .bool]), (20022, .call [.pv .bool]), (20025, .fork [] [(20032, .off), (20037, .off)]), (20027, .call [.pv .bool]), (20029, .call [.pv .bool]), (20032, .fork [] [(20037, .off)]), (20035, .call [.pv .bool]), (20037, .fork [] [])] mixed Try.func3 rfl (by kernel_rfl) (by kernel_rfl)

/-- precentorlaw19.FlushStays -/
def P4 (a0 : FlushStaysIn) (Φ : List RV → Prop) : Prop :=
 ∃ x1, Cl 8 [] [.pv (B x1)] ∧
 ∃ x2, Cl 9 [eBarrier a0.b] [.pv (B x2)] ∧
 Fk (!x2)
 (Φ [.pv (B x1)])
 (∃ x3, Cl 10 [eBarrier a0.b, I a0.n] [.pv (B x3)] ∧
 Fk (!x3)
 (Φ [.pv (B x1)])
 (∃ x4, Cl 14 [eItem a0.it] [.pv (B x4)] ∧
 Fk (!x4)
 (Φ [.pv (B x1)])
 (Nz a0.n (
 ∃ x5 x6, Cl 15 [eBarrier a0.b, I (Int.tmod (w64 (a0.from_.toNat : Int)) a0.n), eItem a0.it] [.pv (eBarrier x5), .pv (I x6)] ∧
 Jn (fun v7 : Bool × Unit × (Bool × Int × (List PV) × (List PV) × Bool × (List PV) × Unit) × Unit =>
 SmA (.bp 131096 0) ∧ SmA (.pv (I a0.n)) ∧ SmA (.bp 524352 0) ∧ SmA (.pv (B a0.b.on)) ∧ SmA (.pv (I a0.b.next)) ∧ SmA (.pv (.sl false (List.map B a0.b.acked))) ∧ SmA (.pv (.sl false (List.map I a0.b.count))) ∧ SmA (.pv (B a0.b.done)) ∧ SmA (.pv (.sl false (List.map I a0.b.l))) ∧ Lo (fun (L10 : Bool × Int × Unit × (Bool × Int × (List PV) × (List PV) × Bool × (List PV) × Unit) × Unit → Prop) (v9 : Bool × Int × Unit × (Bool × Int × (List PV) × (List PV) × Bool × (List PV) × Unit) × Unit) =>
 Fk (decide (v9.2.1 < a0.n))
 (Jn (fun v11 : Bool × Int × Unit × (Bool × Int × (List PV) × (List PV) × Bool × (List PV) × Unit) × Unit =>
 SmA (.bp 131096 0) ∧ SmA (.pv (I a0.n)) ∧ SmA (.bp 524352 0) ∧ SmA (.pv (B a0.b.on)) ∧ SmA (.pv (I a0.b.next)) ∧ SmA (.pv (.sl false (List.map B a0.b.acked))) ∧ SmA (.pv (.sl false (List.map I a0.b.count))) ∧ SmA (.pv (B a0.b.done)) ∧ SmA (.pv (.sl false (List.map I a0.b.l))) ∧ L10 (v11.1, w64 (v11.2.1 + 1), (), (v11.2.2.2.1.1, v11.2.2.2.1.2.1, v11.2.2.2.1.2.2.1, v11.2.2.2.1.2.2.2.1, v11.2.2.2.1.2.2.2.2.1, v11.2.2.2.1.2.2.2.2.2.1, ()), ())) (fun j12 =>
 (fun j12 : Bool × Int × Unit × (Bool × Int × (List PV) × (List PV) × Bool × (List PV) × Unit) × Unit → Prop =>
 Ix B (List.map B a0.b.acked) v9.2.1 fun x13 =>
 Fk x13
 (Ix B v9.2.2.2.1.2.2.1 v9.2.1 fun x14 =>
 Fk (!x14)
 (Φ [.pv (B false)])
 (Ix I v9.2.2.2.1.2.2.2.1 v9.2.1 fun x15 =>
 Ix I (List.map I a0.b.count) v9.2.1 fun x16 =>
 Fk (x15 != x16)
 (Φ [.pv (B false)])
 (j12 (v9.1, v9.2.1, (), (v9.2.2.2.1.1, v9.2.2.2.1.2.1, v9.2.2.2.1.2.2.1, v9.2.2.2.1.2.2.2.1, v9.2.2.2.1.2.2.2.2.1, v9.2.2.2.1.2.2.2.2.2.1, ()), ()))))
 (j12 (v9.1, v9.2.1, (), (v9.2.2.2.1.1, v9.2.2.2.1.2.1, v9.2.2.2.1.2.2.1, v9.2.2.2.1.2.2.2.1, v9.2.2.2.1.2.2.2.2.1, v9.2.2.2.1.2.2.2.2.2.1, ()), ()))) (fun v => SmA (.bp 131096 0) ∧ SmA (.pv (I a0.n)) ∧ SmA (.bp 524352 0) ∧ SmA (.pv (B a0.b.on)) ∧ SmA (.pv (I a0.b.next)) ∧ SmA (.pv (.sl false (List.map B a0.b.acked))) ∧ SmA (.pv (.sl false (List.map I a0.b.count))) ∧ SmA (.pv (B a0.b.done)) ∧ SmA (.pv (.sl false (List.map I a0.b.l))) ∧ j12 v)))
 (Φ [.pv (B v9.1)])) (v7.1, 0, (), (v7.2.2.1.1, v7.2.2.1.2.1, v7.2.2.1.2.2.1, v7.2.2.1.2.2.2.1, v7.2.2.1.2.2.2.2.1, v7.2.2.1.2.2.2.2.2.1, ()), ())) (fun j8 =>
 (fun j8 : Bool × Unit × (Bool × Int × (List PV) × (List PV) × Bool × (List PV) × Unit) × Unit → Prop =>
 ∃ x17, Cl 10 [eBarrier x5, I a0.n] [.pv (B x17)] ∧
 Fk (!x17)
 (Φ [.pv (B false)])
 (Fk (x6 != 0)
 (∃ x18, Cl 13 [eBarrier x5, eBarrier a0.b] [.pv (B x18)] ∧
 Fk (!x18)
 (Φ [.pv (B false)])
 (∃ x19, Cl 23 [eBarrier a0.b] [.pv (B x19)] ∧
 Fk x19
 (∃ x20, Cl 23 [eBarrier x5] [.pv (B x20)] ∧
 Fk (!x20)
 (Φ [.pv (B false)])
 (j8 (x1, (), (x5.on, x5.next, List.map B x5.acked, List.map I x5.count, x5.done, List.map I x5.l, ()), ())))
 (j8 (x1, (), (x5.on, x5.next, List.map B x5.acked, List.map I x5.count, x5.done, List.map I x5.l, ()), ()))))
 (∃ x21, Cl 23 [eBarrier a0.b] [.pv (B x21)] ∧
 Fk x21
 (∃ x22, Cl 23 [eBarrier x5] [.pv (B x22)] ∧
 Fk (!x22)
 (Φ [.pv (B false)])
 (j8 (x1, (), (x5.on, x5.next, List.map B x5.acked, List.map I x5.count, x5.done, List.map I x5.l, ()), ())))
 (j8 (x1, (), (x5.on, x5.next, List.map B x5.acked, List.map I x5.count, x5.done, List.map I x5.l, ()), ()))))) (fun v => SmA (.bp 131096 0) ∧ SmA (.pv (I a0.n)) ∧ SmA (.bp 524352 0) ∧ SmA (.pv (B a0.b.on)) ∧ SmA (.pv (I a0.b.next)) ∧ SmA (.pv (.sl false (List.map B a0.b.acked))) ∧ SmA (.pv (.sl false (List.map I a0.b.count))) ∧ SmA (.pv (B a0.b.done)) ∧ SmA (.pv (.sl false (List.map I a0.b.l))) ∧ j8 v))))))
theorem t4 (a0 : FlushStaysIn) {Φ : List RV → Prop} (h : P4 a0 Φ) : CtP Try.prog 4 [eFlushStaysIn a0] Φ :=
  ctP_by h 1000 [(5000, .call [.pv .bool]), (6001, .call [.pv .bool]), (6003, .fork [(6013, .off), (6009, .off)] []), (6006, .call [.pv .bool]), (6009, .fork [(6013, .off)] []), (6011, .call [.pv .bool]), (6013, .fork [] []), (8004, .div), (8006, .call [.pv (.ty Barrier eBarrier), .pv (.int .i64)]), (9002, .call [.pv .bool]), (9004, .fork [(9022, .off), (9014, .off)] []), (9007, .fork [] [(9014, .off)]), (9010, .call [.pv .bool]), (9014, .fork [(9022, .off)] []), (9016, .call [.pv .bool]), (9017, .fork [] [(9022, .off)]), (9019, .call [.pv .bool]), (9022, .fork [] []), (11998, .join [.k 3 (.bp 131096 0), .k 4 (.pv (I a0.n)), .c 7 .bool, .k 8 (.bp 524352 0), .box 131096 true [.k (.pv (B a0.b.on)), .k (.pv (I a0.b.next)), .k (.pv (.sl false (List.map B a0.b.acked))), .k (.pv (.sl false (List.map I a0.b.count))), .k (.pv (B a0.b.done)), .k (.pv (.sl false (List.map I a0.b.l)))], .box 524352 true [.h .bool, .h (.int .i64), .h .sl, .h .sl, .h .bool, .h .sl]]), (12002, .fork [] []), (12999, .loop [.k 3 (.bp 131096 0), .k 4 (.pv (I a0.n)), .c 7 .bool, .k 8 (.bp 524352 0), .c 10 (.int .i64), .box 131096 true [.k (.pv (B a0.b.on)), .k (.pv (I a0.b.next)), .k (.pv (.sl false (List.map B a0.b.acked))), .k (.pv (.sl false (List.map I a0.b.count))), .k (.pv (B a0.b.done)), .k (.pv (.sl false (List.map I a0.b.l)))], .box 524352 true [.h .bool, .h (.int .i64), .h .sl, .h .sl, .h .bool, .h .sl]]), (13998, .join [.k 3 (.bp 131096 0), .k 4 (.pv (I a0.n)), .c 7 .bool, .k 8 (.bp 524352 0), .c 10 (.int .i64), .box 131096 true [.k (.pv (B a0.b.on)), .k (.pv (I a0.b.next)), .k (.pv (.sl false (List.map B a0.b.acked))), .k (.pv (.sl false (List.map I a0.b.count))), .k (.pv (B a0.b.done)), .k (.pv (.sl false (List.map I a0.b.l)))], .box 524352 true [.h .bool, .h (.int .i64), .h .sl, .h .sl, .h .bool, .h .sl]]), (14003, .ix Bool B), (14005, .fork [] [(14025, .off)]), (14009, .ix Bool B), (14012, .fork [(14025, .off)] []), (14016, .ix Int I), (14021, .ix Int I), (14025, .fork [] [])] mixed Try.func4 rfl (by kernel_rfl) (by kernel_rfl)

/-- precentorlaw19.FlushOrder -/
def P5 (a0 : List PV) (a1 : UInt8) (a2 : List PV) (Φ : List RV → Prop) : Prop :=
 ∃ x1, Cl 8 [] [.pv (B x1)] ∧
 Ln a0 (Ln a2 (Fk (decide ((a0.length : Int) < 2))
 (Φ [.pv (B x1)])
 (Fk (decide (9 < (a0.length : Int)))
 (Φ [.pv (B x1)])
 (Fk (decide (60 < (a2.length : Int)))
 (Φ [.pv (B x1)])
 (SmA (.pv (.sl false a0)) ∧ SmA (.pv (U8 a1)) ∧ SmA (.pv (.sl false a2)) ∧ SmA (.pv (I (a0.length : Int))) ∧ Lo (fun (L3 : Bool × List PV × List PV × List PV × Int × Unit → Prop) (v2 : Bool × List PV × List PV × List PV × Int × Unit) =>
 Fk (decide (v2.2.2.2.2.1 < (a0.length : Int)))
 (Sz v2.2.1.length 1 8 (
 Ix (fun n : Int => PV.lit (.int .u16 n)) a0 v2.2.2.2.2.1 fun x4 =>
 Sz v2.2.2.1.length 1 96 (
 Ix (fun n : Int => PV.lit (.int .u16 n)) a0 v2.2.2.2.2.1 fun x5 =>
 Sz v2.2.2.2.1.length 1 8 (
 SmA (.pv (.sl false a0)) ∧ SmA (.pv (U8 a1)) ∧ SmA (.pv (.sl false a2)) ∧ SmA (.pv (I (a0.length : Int))) ∧ L3 (v2.1, v2.2.1 ++ [I v2.2.2.2.2.1], v2.2.2.1 ++ [.agg [I 5, I 1, I 0, I 0, I 0, I (w64 x4), .sl false [], .sl false []]], v2.2.2.2.1 ++ [I (w64 x5)], w64 (v2.2.2.2.2.1 + 1), ())))))
 (Sz v2.2.1.length 2 8 (
 Nz 2 (
 Sz v2.2.2.1.length 2 96 (
 ∃ x6, Cl 19 [I (a0.length : Int)] [.pv (eBarrier x6)] ∧
 SmA (.pv (.sl false a2)) ∧ SmA (.pv (I (a0.length : Int))) ∧ SmA (.bp 852072 0) ∧ Lo (fun (L8 : Bool × List PV × List PV × Int × (Bool × Int × (List PV) × (List PV) × Bool × (List PV) × Unit) × Unit → Prop) (v7 : Bool × List PV × List PV × Int × (Bool × Int × (List PV) × (List PV) × Bool × (List PV) × Unit) × Unit) =>
 Ln v7.2.2.1 (Fk (decide (v7.2.2.2.1 < (v7.2.2.1.length : Int)))
 (Rx v7.2.2.2.1 v7.2.1.length (
 Ld I v7.2.1 (0 + v7.2.2.2.1.toNat) fun x9 =>
 Rx v7.2.2.2.1 v7.2.2.1.length (
 Ld eItem v7.2.2.1 (0 + v7.2.2.2.1.toNat) fun x10 =>
 ∃ x11 x12, Cl 15 [.agg [B v7.2.2.2.2.1.1, I v7.2.2.2.2.1.2.1, .sl false v7.2.2.2.2.1.2.2.1, .sl false v7.2.2.2.2.1.2.2.2.1, B v7.2.2.2.2.1.2.2.2.2.1, .sl false v7.2.2.2.2.1.2.2.2.2.2.1], I x9, eItem x10] [.pv (eBarrier x11), .pv (I x12)] ∧
 Fk (x12 != 0)
 (Φ [.pv (B false)])
 (∃ x13, Cl 23 [eBarrier x11] [.pv (B x13)] ∧
 Fk (x13 != (v7.2.2.2.1 == (w64 ((v7.2.2.1.length : Int) - 1))))
 (Φ [.pv (B false)])
 (SmA (.pv (.sl false a2)) ∧ SmA (.pv (I (a0.length : Int))) ∧ SmA (.bp 852072 0) ∧ L8 (v7.1, v7.2.1, v7.2.2.1, w64 (v7.2.2.2.1 + 1), (x11.on, x11.next, List.map B x11.acked, List.map I x11.count, x11.done, List.map I x11.l, ()), ()))))))
 (SmA (.pv (.sl false a2)) ∧ SmA (.pv (I (a0.length : Int))) ∧ SmA (.bp 852072 0) ∧ Lo (fun (L15 : Bool × List PV × List PV × Int × (Bool × Int × (List PV) × (List PV) × Bool × (List PV) × Unit) × Unit → Prop) (v14 : Bool × List PV × List PV × Int × (Bool × Int × (List PV) × (List PV) × Bool × (List PV) × Unit) × Unit) =>
 Fk (decide (v14.2.2.2.1 < (a2.length : Int)))
 (Ln v14.2.2.1 (Ix U8 a2 v14.2.2.2.1 fun x16 =>
 Nz (v14.2.2.1.length : Int) (
 Nz (v14.2.2.1.length : Int) (
 Rx (Int.tmod v14.2.2.2.1 (v14.2.2.1.length : Int)) v14.2.2.1.length (
 Ld eItem v14.2.2.1 (0 + (Int.tmod v14.2.2.2.1 (v14.2.2.1.length : Int)).toNat) fun x17 =>
 Rx (Int.tmod (w64 (x16.toNat : Int)) (v14.2.2.1.length : Int)) v14.2.2.1.length (
 Ld eItem v14.2.2.1 (0 + (Int.tmod (w64 (x16.toNat : Int)) (v14.2.2.1.length : Int)).toNat) fun x18 =>
 Rx (Int.tmod (w64 (x16.toNat : Int)) (v14.2.2.1.length : Int)) v14.2.2.1.length (
 Ld eItem v14.2.2.1 (0 + (Int.tmod (w64 (x16.toNat : Int)) (v14.2.2.1.length : Int)).toNat) fun x19 =>
 Rx (Int.tmod v14.2.2.2.1 (v14.2.2.1.length : Int)) v14.2.2.1.length (
 Ld eItem (v14.2.2.1.set (0 + (Int.tmod (w64 (x16.toNat : Int)) (v14.2.2.1.length : Int)).toNat) (eItem x17)) (0 + (Int.tmod v14.2.2.2.1 (v14.2.2.1.length : Int)).toNat) fun x20 =>
 Rx (Int.tmod v14.2.2.2.1 (v14.2.2.1.length : Int)) v14.2.1.length (
 Ld I v14.2.1 (0 + (Int.tmod v14.2.2.2.1 (v14.2.2.1.length : Int)).toNat) fun x21 =>
 Rx (Int.tmod (w64 (x16.toNat : Int)) (v14.2.2.1.length : Int)) v14.2.1.length (
 Ld I v14.2.1 (0 + (Int.tmod (w64 (x16.toNat : Int)) (v14.2.2.1.length : Int)).toNat) fun x22 =>
 Rx (Int.tmod (w64 (x16.toNat : Int)) (v14.2.2.1.length : Int)) v14.2.1.length (
 Ld I v14.2.1 (0 + (Int.tmod (w64 (x16.toNat : Int)) (v14.2.2.1.length : Int)).toNat) fun x23 =>
 Rx (Int.tmod v14.2.2.2.1 (v14.2.2.1.length : Int)) v14.2.1.length (
 Ld I (v14.2.1.set (0 + (Int.tmod (w64 (x16.toNat : Int)) (v14.2.2.1.length : Int)).toNat) (I x21)) (0 + (Int.tmod v14.2.2.2.1 (v14.2.2.1.length : Int)).toNat) fun x24 =>
 SmA (.pv (.sl false a2)) ∧ SmA (.pv (I (a0.length : Int))) ∧ SmA (.bp 852072 0) ∧ L15 (v14.1, (v14.2.1.set (0 + (Int.tmod (w64 (x16.toNat : Int)) (v14.2.2.1.length : Int)).toNat) (I x21)).set (0 + (Int.tmod v14.2.2.2.1 (v14.2.2.1.length : Int)).toNat) (I x22), (v14.2.2.1.set (0 + (Int.tmod (w64 (x16.toNat : Int)) (v14.2.2.1.length : Int)).toNat) (eItem x17)).set (0 + (Int.tmod v14.2.2.2.1 (v14.2.2.1.length : Int)).toNat) (eItem x18), w64 (v14.2.2.2.1 + 1), (v14.2.2.2.2.1.1, v14.2.2.2.2.1.2.1, v14.2.2.2.2.1.2.2.1, v14.2.2.2.2.1.2.2.2.1, v14.2.2.2.2.1.2.2.2.2.1, v14.2.2.2.2.1.2.2.2.2.2.1, ()), ())))))))))))))
 (∃ x25, Cl 19 [I (a0.length : Int)] [.pv (eBarrier x25)] ∧
 SmA (.bp 852072 0) ∧ SmA (.bp 1310880 0) ∧ Lo (fun (L27 : Bool × List PV × List PV × Int × (Bool × Int × (List PV) × (List PV) × Bool × (List PV) × Unit) × (Bool × Int × (List PV) × (List PV) × Bool × (List PV) × Unit) × Unit → Prop) (v26 : Bool × List PV × List PV × Int × (Bool × Int × (List PV) × (List PV) × Bool × (List PV) × Unit) × (Bool × Int × (List PV) × (List PV) × Bool × (List PV) × Unit) × Unit) =>
 Ln v26.2.2.1 (Fk (decide (v26.2.2.2.1 < (v26.2.2.1.length : Int)))
 (Rx v26.2.2.2.1 v26.2.1.length (
 Ld I v26.2.1 (0 + v26.2.2.2.1.toNat) fun x28 =>
 Rx v26.2.2.2.1 v26.2.2.1.length (
 Ld eItem v26.2.2.1 (0 + v26.2.2.2.1.toNat) fun x29 =>
 ∃ x30 x31, Cl 15 [.agg [B v26.2.2.2.2.2.1.1, I v26.2.2.2.2.2.1.2.1, .sl false v26.2.2.2.2.2.1.2.2.1, .sl false v26.2.2.2.2.2.1.2.2.2.1, B v26.2.2.2.2.2.1.2.2.2.2.1, .sl false v26.2.2.2.2.2.1.2.2.2.2.2.1], I x28, eItem x29] [.pv (eBarrier x30), .pv (I x31)] ∧
 Fk (x31 != 0)
 (Φ [.pv (B false)])
 (∃ x32, Cl 23 [eBarrier x30] [.pv (B x32)] ∧
 Fk (x32 != (v26.2.2.2.1 == (w64 ((v26.2.2.1.length : Int) - 1))))
 (Φ [.pv (B false)])
 (SmA (.bp 852072 0) ∧ SmA (.bp 1310880 0) ∧ L27 (v26.1, v26.2.1, v26.2.2.1, w64 (v26.2.2.2.1 + 1), (v26.2.2.2.2.1.1, v26.2.2.2.2.1.2.1, v26.2.2.2.2.1.2.2.1, v26.2.2.2.2.1.2.2.2.1, v26.2.2.2.2.1.2.2.2.2.1, v26.2.2.2.2.1.2.2.2.2.2.1, ()), (x30.on, x30.next, List.map B x30.acked, List.map I x30.count, x30.done, List.map I x30.l, ()), ()))))))
 (Fk v26.1
 (∃ x33, Cl 13 [.agg [B v26.2.2.2.2.2.1.1, I v26.2.2.2.2.2.1.2.1, .sl false v26.2.2.2.2.2.1.2.2.1, .sl false v26.2.2.2.2.2.1.2.2.2.1, B v26.2.2.2.2.2.1.2.2.2.2.1, .sl false v26.2.2.2.2.2.1.2.2.2.2.2.1], .agg [B v26.2.2.2.2.1.1, I v26.2.2.2.2.1.2.1, .sl false v26.2.2.2.2.1.2.2.1, .sl false v26.2.2.2.2.1.2.2.2.1, B v26.2.2.2.2.1.2.2.2.2.1, .sl false v26.2.2.2.2.1.2.2.2.2.2.1]] [.pv (B x33)] ∧
 Φ [.pv (B x33)])
 (Φ [.pv (B false)])))) (v14.1, v14.2.1, v14.2.2.1, 0, (v14.2.2.2.2.1.1, v14.2.2.2.2.1.2.1, v14.2.2.2.2.1.2.2.1, v14.2.2.2.2.1.2.2.2.1, v14.2.2.2.2.1.2.2.2.2.1, v14.2.2.2.2.1.2.2.2.2.2.1, ()), (x25.on, x25.next, List.map B x25.acked, List.map I x25.count, x25.done, List.map I x25.l, ()), ()))) (v7.1, v7.2.1, v7.2.2.1, 0, (v7.2.2.2.2.1.1, v7.2.2.2.2.1.2.1, v7.2.2.2.2.1.2.2.1, v7.2.2.2.2.1.2.2.2.1, v7.2.2.2.2.1.2.2.2.2.1, v7.2.2.2.2.1.2.2.2.2.2.1, ()), ())))) (v2.1, v2.2.1 ++ [I 0, I 0], v2.2.2.1 ++ [.agg [I 4, I 1, I 0, I (Int.tmod (w64 (a1.toNat : Int)) 2), I 0, I 0, .sl false [], .sl false []], .agg [I 6, I 1, I 0, I 0, I 0, I 0, .sl false v2.2.2.2.1, .sl false []]], 0, (x6.on, x6.next, List.map B x6.acked, List.map I x6.count, x6.done, List.map I x6.l, ()), ())))))) (x1, [], [], [], 0, ()))))))
theorem t5 (a0 : List PV) (a1 : UInt8) (a2 : List PV) {Φ : List RV → Prop} (h : P5 a0 a1 a2 Φ) : CtP Try.prog 5 [.sl false a0, U8 a1, .sl false a2] Φ :=
  ctP_by h 1000 [(1000, .call [.pv .bool]), (2997, .lens [0]), (3002, .fork [(3010, .off), (3006, .off)] []), (3006, .fork [(3010, .off)] []), (3010, .fork [] []), (3997, .lens [2]), (9002, .fork [] []), (9999, .loop [.k 0 (.pv (.sl false a0)), .k 1 (.pv (U8 a1)), .k 2 (.pv (.sl false a2)), .c 7 .bool, .k 8 (.pv (I (a0.length : Int))), .r 9 3 1, .r 10 28 8, .r 11 3 1, .c 12 (.int .i64)]), (11003, .app false false), (12003, .ix Int (fun n : Int => PV.lit (.int .u16 n))), (12006, .dull), (12008, .app false false), (13003, .ix Int (fun n : Int => PV.lit (.int .u16 n))), (13007, .app false false), (14002, .app false false), (15003, .div), (15004, .dull), (15006, .dull), (15008, .app false false), (16001, .call [.pv (.ty Barrier eBarrier)]), (18003, .fork [] []), (18997, .lens [10]), (18999, .loop [.k 2 (.pv (.sl false a2)), .c 7 .bool, .k 8 (.pv (I (a0.length : Int))), .r 9 3 1, .r 10 28 8, .k 13 (.bp 852072 0), .c 14 (.int .i64), .box 852072 true [.h .bool, .h (.int .i64), .h .sl, .h .sl, .h .bool, .h .sl]]), (20003, .ixr), (20004, .ld Int I), (20007, .ixr), (20008, .ld Item eItem), (20009, .call [.pv (.ty Barrier eBarrier), .pv (.int .i64)]), (21002, .fork [(21011, .off)] []), (21004, .call [.pv .bool]), (21011, .fork [] []), (25003, .fork [] []), (25999, .loop [.k 2 (.pv (.sl false a2)), .c 7 .bool, .k 8 (.pv (I (a0.length : Int))), .r 9 3 1, .r 10 28 8, .k 13 (.bp 852072 0), .c 17 (.int .i64), .box 852072 true [.h .bool, .h (.int .i64), .h .sl, .h .sl, .h .bool, .h .sl]]), (27002, .ix UInt8 U8), (27007, .div), (27997, .lens [10]), (28003, .div), (29006, .ixr), (29007, .ld Item eItem), (29010, .ixr), (29011, .ld Item eItem), (29012, .ixr), (29013, .st Item eItem), (29014, .ixr), (29015, .st Item eItem), (30006, .ixr), (30007, .ld Int I), (30010, .ixr), (30011, .ld Int I), (30012, .ixr), (30013, .st Int I), (30014, .ixr), (30015, .st Int I), (31001, .call [.pv (.ty Barrier eBarrier)]), (33003, .fork [] []), (33997, .lens [10]), (33999, .loop [.c 7 .bool, .r 9 3 1, .r 10 28 8, .k 13 (.bp 852072 0), .k 20 (.bp 1310880 0), .c 21 (.int .i64), .box 852072 true [.h .bool, .h (.int .i64), .h .sl, .h .sl, .h .bool, .h .sl], .box 1310880 true [.h .bool, .h (.int .i64), .h .sl, .h .sl, .h .bool, .h .sl]]), (35003, .ixr), (35004, .ld Int I), (35007, .ixr), (35008, .ld Item eItem), (35009, .call [.pv (.ty Barrier eBarrier), .pv (.int .i64)]), (36002, .fork [(36011, .off)] []), (36004, .call [.pv .bool]), (36011, .fork [] []), (39001, .fork [] []), (39004, .call [.pv .bool])] mixed Try.func5 rfl (by kernel_rfl) (by kernel_rfl)

/-- precentorlaw19.FlushSays -/
def P6 (a0 : List PV) (a1 : UInt8) (Φ : List RV → Prop) : Prop :=
 ∃ x1, Cl 8 [] [.pv (B x1)] ∧
 Ln a0 (Fk (decide ((a0.length : Int) < 2))
 (Φ [.pv (B x1)])
 (Fk (decide (9 < (a0.length : Int)))
 (Φ [.pv (B x1)])
 (∃ x2, Cl 19 [I (a0.length : Int)] [.pv (eBarrier x2)] ∧
 ∃ x3 x4, Cl 17 [eBarrier x2, I 0, I 0] [.pv (eItem x3), .pv (B x4)] ∧
 Nz 2 (
 ∃ x5 x6, Cl 15 [eBarrier x2, I 0, .agg [I 4, I 1, I 0, I (Int.tmod (w64 (a1.toNat : Int)) 2), I 0, I 0, .sl true [], .sl true []]] [.pv (eBarrier x5), .pv (I x6)] ∧
 Fk x4
 (Φ [.pv (B false)])
 (Fk (x6 != 0)
 (Φ [.pv (B false)])
 (SmA (.pv (.sl false a0)) ∧ SmA (.pv (I (a0.length : Int))) ∧ SmA (.bp 327736 0) ∧ Lo (fun (L8 : Bool × Int × (Bool × Int × (List PV) × (List PV) × Bool × (List PV) × Unit) × Unit → Prop) (v7 : Bool × Int × (Bool × Int × (List PV) × (List PV) × Bool × (List PV) × Unit) × Unit) =>
 Fk (decide (0 ≤ v7.2.1))
 (Ix (fun n : Int => PV.lit (.int .u16 n)) a0 v7.2.1 fun x9 =>
 ∃ x10 x11, Cl 17 [.agg [B v7.2.2.1.1, I v7.2.2.1.2.1, .sl false v7.2.2.1.2.2.1, .sl false v7.2.2.1.2.2.2.1, B v7.2.2.1.2.2.2.2.1, .sl false v7.2.2.1.2.2.2.2.2.1], I v7.2.1, I (w64 x9)] [.pv (eItem x10), .pv (B x11)] ∧
 Fk (!x11)
 (Φ [.pv (B false)])
 (Fk (x10.kind != 5)
 (Φ [.pv (B false)])
 (Ix (fun n : Int => PV.lit (.int .u16 n)) a0 v7.2.1 fun x12 =>
 Fk (x10.count != (w64 x12))
 (Φ [.pv (B false)])
 (∃ x13 x14, Cl 15 [.agg [B v7.2.2.1.1, I v7.2.2.1.2.1, .sl false v7.2.2.1.2.2.1, .sl false v7.2.2.1.2.2.2.1, B v7.2.2.1.2.2.2.2.1, .sl false v7.2.2.1.2.2.2.2.2.1], I v7.2.1, .agg [I x10.kind, I 1, I x10.epoch, I x10.index, I x10.total, I x10.count, .sl false (List.map I x10.l), .sl false (List.map U8 x10.body)]] [.pv (eBarrier x13), .pv (I x14)] ∧
 Ix (fun n : Int => PV.lit (.int .u16 n)) a0 v7.2.1 fun x15 =>
 ∃ x16 x17, Cl 17 [eBarrier x13, I v7.2.1, I (w64 x15)] [.pv (eItem x16), .pv (B x17)] ∧
 Fk (x14 != 0)
 (Φ [.pv (B false)])
 (Fk (x17 != (v7.2.1 == 0))
 (Φ [.pv (B false)])
 (SmA (.pv (.sl false a0)) ∧ SmA (.pv (I (a0.length : Int))) ∧ SmA (.bp 327736 0) ∧ L8 (v7.1, w64 (v7.2.1 - 1), (x13.on, x13.next, List.map B x13.acked, List.map I x13.count, x13.done, List.map I x13.l, ()), ())))))))
 (∃ x18 x19, Cl 17 [.agg [B v7.2.2.1.1, I v7.2.2.1.2.1, .sl false v7.2.2.1.2.2.1, .sl false v7.2.2.1.2.2.2.1, B v7.2.2.1.2.2.2.2.1, .sl false v7.2.2.1.2.2.2.2.2.1], I 0, I 0] [.pv (eItem x18), .pv (B x19)] ∧
 Ln (List.map I x18.l) (Ln (List.map U8 x18.body) (Fk (!x19)
 (Φ [.pv (B false)])
 (Fk (x18.kind != 6)
 (Φ [.pv (B false)])
 (Fk (((List.map I x18.l).length : Int) != (a0.length : Int))
 (Φ [.pv (B false)])
 (∃ x20 x21, Cl 15 [.agg [B v7.2.2.1.1, I v7.2.2.1.2.1, .sl false v7.2.2.1.2.2.1, .sl false v7.2.2.1.2.2.2.1, B v7.2.2.1.2.2.2.2.1, .sl false v7.2.2.1.2.2.2.2.2.1], I 0, .agg [I x18.kind, I 1, I x18.epoch, I x18.index, I x18.total, I x18.count, .sl false (List.map I x18.l), .sl false (List.map U8 x18.body)]] [.pv (eBarrier x20), .pv (I x21)] ∧
 ∃ x22 x23, Cl 17 [eBarrier x20, I 0, I 0] [.pv (eItem x22), .pv (B x23)] ∧
 Fk v7.1
 (Fk (x21 == 0)
 (∃ x24, Cl 23 [eBarrier x20] [.pv (B x24)] ∧
 Fk x24
 (Φ [.pv (B (!x23))])
 (Φ [.pv (B false)]))
 (Φ [.pv (B false)]))
 (Φ [.pv (B false)])))))))) (x1, w64 ((a0.length : Int) - 1), (x5.on, x5.next, List.map B x5.acked, List.map I x5.count, x5.done, List.map I x5.l, ()), ())))))))
theorem t6 (a0 : List PV) (a1 : UInt8) {Φ : List RV → Prop} (h : P6 a0 a1 Φ) : CtP Try.prog 6 [.sl false a0, U8 a1] Φ :=
  ctP_by h 1000 [(1000, .call [.pv .bool]), (2997, .lens [0]), (3002, .fork [(3005, .off)] []), (3005, .fork [] []), (5001, .call [.pv (.ty Barrier eBarrier)]), (6001, .call [.pv (.ty Item eItem), .pv .bool]), (7003, .div), (7005, .call [.pv (.ty Barrier eBarrier), .pv (.int .i64)]), (8001, .fork [(8004, .off)] []), (8004, .fork [] []), (11001, .fork [] []), (11999, .loop [.k 0 (.pv (.sl false a0)), .c 5 .bool, .k 6 (.pv (I (a0.length : Int))), .k 7 (.bp 327736 0), .c 11 (.int .i64), .box 327736 true [.h .bool, .h (.int .i64), .h .sl, .h .sl, .h .bool, .h .sl]]), (13004, .ix Int (fun n : Int => PV.lit (.int .u16 n))), (13007, .call [.pv (.ty Item eItem), .pv .bool]), (14002, .fork [(14016, .off), (14007, .off)] []), (14007, .fork [(14016, .off)] []), (14012, .ix Int (fun n : Int => PV.lit (.int .u16 n))), (14016, .fork [] []), (17003, .call [.pv (.ty Barrier eBarrier), .pv (.int .i64)]), (18004, .ix Int (fun n : Int => PV.lit (.int .u16 n))), (18007, .call [.pv (.ty Item eItem), .pv .bool]), (19002, .fork [(19007, .off)] []), (19007, .fork [] []), (22001, .call [.pv (.ty Item eItem), .pv .bool]), (23002, .fork [(23013, .off), (23007, .off)] []), (23007, .fork [(23013, .off)] []), (23013, .fork [] []), (23997, .lens [18]), (26002, .call [.pv (.ty Barrier eBarrier), .pv (.int .i64)]), (27001, .call [.pv (.ty Item eItem), .pv .bool]), (28001, .fork [] [(28005, .off), (28009, .off)]), (28005, .fork [] [(28009, .off)]), (28007, .call [.pv .bool]), (28009, .fork [] [])] mixed Try.func6 rfl (by kernel_rfl) (by kernel_rfl)

/-- precentorlaw19.FlushOther -/
def P7 (a0 : List PV) (a1 : UInt8) (a2 : UInt8) (Φ : List RV → Prop) : Prop :=
 ∃ x1, Cl 8 [] [.pv (B x1)] ∧
 Ln a0 (Fk (decide ((a0.length : Int) < 2))
 (Φ [.pv (B x1)])
 (Fk (decide (9 < (a0.length : Int)))
 (Φ [.pv (B x1)])
 (SmA (.pv (.sl false a0)) ∧ SmA (.pv (U8 a1)) ∧ SmA (.pv (U8 a2)) ∧ SmA (.pv (I (a0.length : Int))) ∧ Lo (fun (L3 : Bool × List PV × Int × Unit → Prop) (v2 : Bool × List PV × Int × Unit) =>
 Fk (decide (v2.2.2.1 < (a0.length : Int)))
 (Ix (fun n : Int => PV.lit (.int .u16 n)) a0 v2.2.2.1 fun x4 =>
 Sz v2.2.1.length 1 8 (
 SmA (.pv (.sl false a0)) ∧ SmA (.pv (U8 a1)) ∧ SmA (.pv (U8 a2)) ∧ SmA (.pv (I (a0.length : Int))) ∧ L3 (v2.1, v2.2.1 ++ [I (w64 x4)], w64 (v2.2.2.1 + 1), ())))
 (Ok (okNews 1 v2.2.1) (Sz 0 v2.2.1.length 8 (
 Nz (a0.length : Int) (
 Rx (Int.tmod (w64 (a2.toNat : Int)) (a0.length : Int)) (0 + v2.2.1.length) (
 Ld I v2.2.1 (0 + (Int.tmod (w64 (a2.toNat : Int)) (a0.length : Int)).toNat) fun x5 =>
 Rx (Int.tmod (w64 (a2.toNat : Int)) (a0.length : Int)) (0 + v2.2.1.length) (
 Ld I v2.2.1 (0 + (Int.tmod (w64 (a2.toNat : Int)) (a0.length : Int)).toNat) fun x6 =>
 ∃ x7, Cl 19 [I (a0.length : Int)] [.pv (eBarrier x7)] ∧
 ∃ x8, Cl 19 [I (a0.length : Int)] [.pv (eBarrier x8)] ∧
 ∃ x9 x10, Cl 15 [eBarrier x7, I 0, .agg [I 4, I 1, I 0, I 0, I 0, I 0, .sl true [], .sl true []]] [.pv (eBarrier x9), .pv (I x10)] ∧
 ∃ x11 x12, Cl 15 [eBarrier x8, I 0, .agg [I 4, I 1, I 0, I 0, I 0, I 0, .sl true [], .sl true []]] [.pv (eBarrier x11), .pv (I x12)] ∧
 ∃ x13 x14, Cl 15 [eBarrier x9, I 0, .agg [I 6, I 2, I 0, I 0, I 0, I 0, .sl false (v2.2.1.set (0 + (Int.tmod (w64 (a2.toNat : Int)) (a0.length : Int)).toNat) (I (w64 (x5 + 1)))), .sl true []]] [.pv (eBarrier x13), .pv (I x14)] ∧
 ∃ x15 x16, Cl 15 [eBarrier x11, I 0, .agg [I 6, I 2, I 0, I 0, I 0, I 0, .sl false v2.2.1, .sl true []]] [.pv (eBarrier x15), .pv (I x16)] ∧
 Fk (x10 != 0)
 (Φ [.pv (B false)])
 (Fk (x12 != 0)
 (Φ [.pv (B false)])
 (Fk (x14 != 0)
 (Φ [.pv (B false)])
 (Fk (x16 != 0)
 (Φ [.pv (B false)])
 (SmA (.pv (U8 a1)) ∧ SmA (.pv (I (a0.length : Int))) ∧ SmA (.bp 720992 0) ∧ SmA (.bp 786536 0) ∧ Lo (fun (L18 : Bool × List PV × Int × (Bool × Int × (List PV) × (List PV) × Bool × (List PV) × Unit) × (Bool × Int × (List PV) × (List PV) × Bool × (List PV) × Unit) × Unit → Prop) (v17 : Bool × List PV × Int × (Bool × Int × (List PV) × (List PV) × Bool × (List PV) × Unit) × (Bool × Int × (List PV) × (List PV) × Bool × (List PV) × Unit) × Unit) =>
 Fk (decide (v17.2.2.1 < (a0.length : Int)))
 (Jn (fun v19 : Bool × List PV × Int × (Bool × Int × (List PV) × (List PV) × Bool × (List PV) × Unit) × (Bool × Int × (List PV) × (List PV) × Bool × (List PV) × Unit) × Unit =>
 SmA (.pv (U8 a1)) ∧ SmA (.pv (I (a0.length : Int))) ∧ SmA (.bp 720992 0) ∧ SmA (.bp 786536 0) ∧ L18 (v19.1, v19.2.1, w64 (v19.2.2.1 + 1), (v19.2.2.2.1.1, v19.2.2.2.1.2.1, v19.2.2.2.1.2.2.1, v19.2.2.2.1.2.2.2.1, v19.2.2.2.1.2.2.2.2.1, v19.2.2.2.1.2.2.2.2.2.1, ()), (v19.2.2.2.2.1.1, v19.2.2.2.2.1.2.1, v19.2.2.2.2.1.2.2.1, v19.2.2.2.2.1.2.2.2.1, v19.2.2.2.2.1.2.2.2.2.1, v19.2.2.2.2.1.2.2.2.2.2.1, ()), ())) (fun j20 =>
 (fun j20 : Bool × List PV × Int × (Bool × Int × (List PV) × (List PV) × Bool × (List PV) × Unit) × (Bool × Int × (List PV) × (List PV) × Bool × (List PV) × Unit) × Unit → Prop =>
 Ix I v17.2.1 v17.2.2.1 fun x21 =>
 ∃ x22 x23, Cl 15 [.agg [B v17.2.2.2.1.1, I v17.2.2.2.1.2.1, .sl false v17.2.2.2.1.2.2.1, .sl false v17.2.2.2.1.2.2.2.1, B v17.2.2.2.1.2.2.2.2.1, .sl false v17.2.2.2.1.2.2.2.2.2.1], I v17.2.2.1, .agg [I 5, I 3, I 0, I 0, I 0, I x21, .sl true [], .sl true []]] [.pv (eBarrier x22), .pv (I x23)] ∧
 Nz (a0.length : Int) (
 Fk (v17.2.2.1 != (Int.tmod (w64 (a1.toNat : Int)) (a0.length : Int)))
 (Ix I v17.2.1 v17.2.2.1 fun x24 =>
 ∃ x25 x26, Cl 15 [.agg [B v17.2.2.2.2.1.1, I v17.2.2.2.2.1.2.1, .sl false v17.2.2.2.2.1.2.2.1, .sl false v17.2.2.2.2.1.2.2.2.1, B v17.2.2.2.2.1.2.2.2.2.1, .sl false v17.2.2.2.2.1.2.2.2.2.2.1], I v17.2.2.1, .agg [I 5, I 3, I 0, I 0, I 0, I x24, .sl true [], .sl true []]] [.pv (eBarrier x25), .pv (I x26)] ∧
 j20 (v17.1, v17.2.1, v17.2.2.1, (x22.on, x22.next, List.map B x22.acked, List.map I x22.count, x22.done, List.map I x22.l, ()), (x25.on, x25.next, List.map B x25.acked, List.map I x25.count, x25.done, List.map I x25.l, ()), ()))
 (j20 (v17.1, v17.2.1, v17.2.2.1, (x22.on, x22.next, List.map B x22.acked, List.map I x22.count, x22.done, List.map I x22.l, ()), (v17.2.2.2.2.1.1, v17.2.2.2.2.1.2.1, v17.2.2.2.2.1.2.2.1, v17.2.2.2.2.1.2.2.2.1, v17.2.2.2.2.1.2.2.2.2.1, v17.2.2.2.2.1.2.2.2.2.2.1, ()), ())))) (fun v => SmA (.pv (U8 a1)) ∧ SmA (.pv (I (a0.length : Int))) ∧ SmA (.bp 720992 0) ∧ SmA (.bp 786536 0) ∧ j20 v)))
 (∃ x27 x28, Cl 15 [.agg [B v17.2.2.2.1.1, I v17.2.2.2.1.2.1, .sl false v17.2.2.2.1.2.2.1, .sl false v17.2.2.2.1.2.2.2.1, B v17.2.2.2.1.2.2.2.2.1, .sl false v17.2.2.2.1.2.2.2.2.2.1], I 0, .agg [I 6, I 4, I 0, I 0, I 0, I 0, .sl false v17.2.1, .sl true []]] [.pv (eBarrier x27), .pv (I x28)] ∧
 Fk v17.1
 (∃ x29, Cl 21 [.agg [B v17.2.2.2.1.1, I v17.2.2.2.1.2.1, .sl false v17.2.2.2.1.2.2.1, .sl false v17.2.2.2.1.2.2.2.1, B v17.2.2.2.1.2.2.2.2.1, .sl false v17.2.2.2.1.2.2.2.2.2.1]] [.pv (B x29)] ∧
 Fk x29
 (∃ x30, Cl 23 [.agg [B v17.2.2.2.1.1, I v17.2.2.2.1.2.1, .sl false v17.2.2.2.1.2.2.1, .sl false v17.2.2.2.1.2.2.2.1, B v17.2.2.2.1.2.2.2.2.1, .sl false v17.2.2.2.1.2.2.2.2.2.1]] [.pv (B x30)] ∧
 Fk (!x30)
 (∃ x31, Cl 21 [.agg [B v17.2.2.2.2.1.1, I v17.2.2.2.2.1.2.1, .sl false v17.2.2.2.2.1.2.2.1, .sl false v17.2.2.2.2.1.2.2.2.1, B v17.2.2.2.2.1.2.2.2.2.1, .sl false v17.2.2.2.2.1.2.2.2.2.2.1]] [.pv (B x31)] ∧
 Fk (!x31)
 (∃ x32, Cl 23 [.agg [B v17.2.2.2.2.1.1, I v17.2.2.2.2.1.2.1, .sl false v17.2.2.2.2.1.2.2.1, .sl false v17.2.2.2.2.1.2.2.2.1, B v17.2.2.2.2.1.2.2.2.2.1, .sl false v17.2.2.2.2.1.2.2.2.2.2.1]] [.pv (B x32)] ∧
 Fk (!x32)
 (Fk (x28 == 2)
 (∃ x33, Cl 23 [eBarrier x27] [.pv (B x33)] ∧
 Φ [.pv (B (!x33))])
 (Φ [.pv (B false)]))
 (Φ [.pv (B false)]))
 (Φ [.pv (B false)]))
 (Φ [.pv (B false)]))
 (Φ [.pv (B false)]))
 (Φ [.pv (B false)]))) (v2.1, v2.2.1, 0, (x13.on, x13.next, List.map B x13.acked, List.map I x13.count, x13.done, List.map I x13.l, ()), (x15.on, x15.next, List.map B x15.acked, List.map I x15.count, x15.done, List.map I x15.l, ()), ())))))))))))) (x1, [], 0, ()))))
theorem t7 (a0 : List PV) (a1 : UInt8) (a2 : UInt8) {Φ : List RV → Prop} (h : P7 a0 a1 a2 Φ) : CtP Try.prog 7 [.sl false a0, U8 a1, U8 a2] Φ :=
  ctP_by h 1000 [(1000, .call [.pv .bool]), (2997, .lens [0]), (3002, .fork [(3005, .off)] []), (3005, .fork [] []), (7002, .fork [] []), (7999, .loop [.k 0 (.pv (.sl false a0)), .k 1 (.pv (U8 a1)), .k 2 (.pv (U8 a2)), .c 7 .bool, .k 8 (.pv (I (a0.length : Int))), .r 9 3 1, .c 10 (.int .i64)]), (9003, .ix Int (fun n : Int => PV.lit (.int .u16 n))), (9007, .app false false), (10002, .app true false), (11004, .div), (11005, .ixr), (11006, .ld Int I), (11008, .ixr), (11009, .st Int I), (12001, .call [.pv (.ty Barrier eBarrier)]), (13001, .call [.pv (.ty Barrier eBarrier)]), (14002, .call [.pv (.ty Barrier eBarrier), .pv (.int .i64)]), (15002, .call [.pv (.ty Barrier eBarrier), .pv (.int .i64)]), (16003, .call [.pv (.ty Barrier eBarrier), .pv (.int .i64)]), (17003, .call [.pv (.ty Barrier eBarrier), .pv (.int .i64)]), (18002, .fork [(18010, .off), (18013, .off), (18006, .off)] []), (18006, .fork [(18013, .off), (18010, .off)] []), (18010, .fork [(18013, .off)] []), (18013, .fork [] []), (21002, .fork [] []), (21999, .loop [.k 1 (.pv (U8 a1)), .c 7 .bool, .k 8 (.pv (I (a0.length : Int))), .c 9 .sl, .k 12 (.bp 720992 0), .k 13 (.bp 786536 0), .c 18 (.int .i64), .box 720992 true [.h .bool, .h (.int .i64), .h .sl, .h .sl, .h .bool, .h .sl], .box 786536 true [.h .bool, .h (.int .i64), .h .sl, .h .sl, .h .bool, .h .sl]]), (22998, .join [.k 1 (.pv (U8 a1)), .c 7 .bool, .k 8 (.pv (I (a0.length : Int))), .c 9 .sl, .k 12 (.bp 720992 0), .k 13 (.bp 786536 0), .c 18 (.int .i64), .box 720992 true [.h .bool, .h (.int .i64), .h .sl, .h .sl, .h .bool, .h .sl], .box 786536 true [.h .bool, .h (.int .i64), .h .sl, .h .sl, .h .bool, .h .sl]]), (23004, .ix Int I), (23007, .call [.pv (.ty Barrier eBarrier), .pv (.int .i64)]), (25004, .div), (25005, .fork [] []), (26004, .ix Int I), (26007, .call [.pv (.ty Barrier eBarrier), .pv (.int .i64)]), (28003, .call [.pv (.ty Barrier eBarrier), .pv (.int .i64)]), (29001, .fork [] [(29005, .off), (29010, .off), (29015, .off), (29020, .off), (29024, .off)]), (29003, .call [.pv .bool]), (29005, .fork [] [(29010, .off), (29015, .off), (29020, .off), (29024, .off)]), (29007, .call [.pv .bool]), (29010, .fork [] [(29015, .off), (29020, .off), (29024, .off)]), (29012, .call [.pv .bool]), (29015, .fork [] [(29020, .off), (29024, .off)]), (29017, .call [.pv .bool]), (29020, .fork [] [(29024, .off)]), (29024, .fork [] []), (29026, .call [.pv .bool])] mixed Try.func7 rfl (by kernel_rfl) (by kernel_rfl)
end Go.Proofs.Ytnekeanhkkfpnaa.M
