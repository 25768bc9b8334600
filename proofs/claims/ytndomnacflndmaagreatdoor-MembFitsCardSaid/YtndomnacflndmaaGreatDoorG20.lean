/- The functions of this seat: what must be shown of each (P..), and that it is enough (t..) (written by a program of this session; no condition). -/
import Derived.Test.YtndomnacflndmaaGreatDoorProg
import Derived.KernelRfl
import Derived.Test.YtndomnacflndmaaGreatDoorNx24
set_option linter.all false
set_option linter.unusedVariables false
set_option linter.unusedSimpArgs false
set_option linter.unnecessarySimpa false
namespace Go.Proofs.YtndomnacflndmaaGreatDoor.M
open Go Go.Mir Go.Proofs
set_option maxRecDepth 100000
set_option linter.unusedVariables false
instance : Globs Tryz.prog := ⟨[(0, [I 0, I 255, I 65535, I 0, I 0, I 0, I 0, I 0, I 4611686018427387904])]⟩
abbrev Clb (g : Nat) (xs : List BA) (bs : List (List PV)) (rs : List RV) (cs : List (List PV)) : Prop := Cb Tryz.prog g xs bs rs cs
abbrev Cl (g : Nat) (ps : List PV) (rs : List RV) : Prop := Ct Tryz.prog g ps rs
theorem mixed : Tryz.prog.follows .mixedOrders = true := by kernel_rfl
structure Conf where
  mk ::
  n : Int
  mtu : Int
  msg : Int
  buf : Int
  quota : Int
  queue : Int
  wait : Int
  every : Int
  least : Int
  rate : Int
  burst : Int
  high : Int
  low : Int
  window : Int
  hyst : Int
  byLoad : Bool
  first : Int
abbrev eConf (x : Conf) : PV := .agg [I x.n, I x.mtu, I x.msg, I x.buf, I x.quota, I x.queue, I x.wait, I x.every, I x.least, I x.rate, I x.burst, I x.high, I x.low, I x.window, I x.hyst, B x.byLoad, I x.first]
abbrev lConf (l : List Conf) : PV := .sl false (l.map eConf)
structure Item where
  mk ::
  kind : Int
  seq : Int
  epoch : Int
  index : Int
  total : Int
  count : Int
  l : List Int
  body : List UInt8
abbrev eItem (x : Item) : PV := .agg [I x.kind, I x.seq, I x.epoch, I x.index, I x.total, I x.count, .sl false (List.map I x.l), .sl false (List.map U8 x.body)]
abbrev lItem (l : List Item) : PV := .sl false (l.map eItem)
structure Keep where
  mk ::
  next : Int
  l : List Item
abbrev eKeep (x : Keep) : PV := .agg [I x.next, .sl false (List.map eItem x.l)]
abbrev lKeep (l : List Keep) : PV := .sl false (l.map eKeep)
structure Win where
  mk ::
  next : Int
  l : List Item
abbrev eWin (x : Win) : PV := .agg [I x.next, .sl false (List.map eItem x.l)]
abbrev lWin (l : List Win) : PV := .sl false (l.map eWin)
structure Ask where
  mk ::
  due : Int
abbrev eAsk (x : Ask) : PV := .agg [I x.due]
abbrev lAsk (l : List Ask) : PV := .sl false (l.map eAsk)
structure Rel where
  mk ::
  me : Int
  now : Int
  keep : Keep
  win : List Win
  top : List Int
  ask : List Ask
  have_ : List (List Int)
  lost : List Int
  naks : Int
abbrev eRel (x : Rel) : PV := .agg [I x.me, I x.now, I x.keep.next, .sl false (List.map eItem x.keep.l), .sl false (List.map eWin x.win), .sl false (List.map I x.top), .sl false (List.map eAsk x.ask), .sl false (List.map lI x.have_), .sl false (List.map I x.lost), I x.naks]
abbrev lRel (l : List Rel) : PV := .sl false (l.map eRel)
structure Rate where
  mk ::
  now : Int
  left : Int
abbrev eRate (x : Rate) : PV := .agg [I x.now, I x.left]
abbrev lRate (l : List Rate) : PV := .sl false (l.map eRate)
structure Entry where
  mk ::
  kind : Int
  seq : Int
  b : List UInt8
  l : List Int
  hand : Bool
abbrev eEntry (x : Entry) : PV := .agg [I x.kind, I x.seq, .sl false (List.map U8 x.b), .sl false (List.map I x.l), B x.hand]
abbrev lEntry (l : List Entry) : PV := .sl false (l.map eEntry)
structure Part where
  mk ::
  seq : Int
  total : Int
  got : Int
  b : List UInt8
abbrev ePart (x : Part) : PV := .agg [I x.seq, I x.total, I x.got, .sl false (List.map U8 x.b)]
abbrev lPart (l : List Part) : PV := .sl false (l.map ePart)
structure Lane where
  mk ::
  l : List Entry
  part : Part
abbrev eLane (x : Lane) : PV := .agg [.sl false (List.map eEntry x.l), I x.part.seq, I x.part.total, I x.part.got, .sl false (List.map U8 x.part.b)]
abbrev lLane (l : List Lane) : PV := .sl false (l.map eLane)
structure Turn where
  mk ::
  who : Int
  used : Int
abbrev eTurn (x : Turn) : PV := .agg [I x.who, I x.used]
abbrev lTurn (l : List Turn) : PV := .sl false (l.map eTurn)
structure Barrier where
  mk ::
  on : Bool
  next : Int
  acked : List Bool
  count : List Int
  done : Bool
  l : List Int
abbrev eBarrier (x : Barrier) : PV := .agg [B x.on, I x.next, .sl false (List.map B x.acked), .sl false (List.map I x.count), B x.done, .sl false (List.map I x.l)]
abbrev lBarrier (l : List Barrier) : PV := .sl false (l.map eBarrier)
structure Meter where
  mk ::
  at_ : Int
  many : Int
  bytes : Int
abbrev eMeter (x : Meter) : PV := .agg [I x.at_, I x.many, I x.bytes]
abbrev lMeter (l : List Meter) : PV := .sl false (l.map eMeter)
structure Want where
  mk ::
  hits : Int
abbrev eWant (x : Want) : PV := .agg [I x.hits]
abbrev lWant (l : List Want) : PV := .sl false (l.map eWant)
structure Deliv where
  mk ::
  from_ : Int
  b : List UInt8
abbrev eDeliv (x : Deliv) : PV := .agg [I x.from_, .sl false (List.map U8 x.b)]
abbrev lDeliv (l : List Deliv) : PV := .sl false (l.map eDeliv)
structure Memb where
  mk ::
  conf : Conf
  down : Bool
  rel : Rel
  queue : List (List UInt8)
  rate : Rate
  epoch : Int
  engine : Int
  lane : List Lane
  turn : Turn
  barrier : Barrier
  sent : Int
  meter : Meter
  want : Want
  switch : Bool
  log : List Deliv
  polled : Int
  drops : Int
abbrev eMemb (x : Memb) : PV := .agg [I x.conf.n, I x.conf.mtu, I x.conf.msg, I x.conf.buf, I x.conf.quota, I x.conf.queue, I x.conf.wait, I x.conf.every, I x.conf.least, I x.conf.rate, I x.conf.burst, I x.conf.high, I x.conf.low, I x.conf.window, I x.conf.hyst, B x.conf.byLoad, I x.conf.first, B x.down, I x.rel.me, I x.rel.now, I x.rel.keep.next, .sl false (List.map eItem x.rel.keep.l), .sl false (List.map eWin x.rel.win), .sl false (List.map I x.rel.top), .sl false (List.map eAsk x.rel.ask), .sl false (List.map lI x.rel.have_), .sl false (List.map I x.rel.lost), I x.rel.naks, .sl false (List.map lU8 x.queue), I x.rate.now, I x.rate.left, I x.epoch, I x.engine, .sl false (List.map eLane x.lane), I x.turn.who, I x.turn.used, B x.barrier.on, I x.barrier.next, .sl false (List.map B x.barrier.acked), .sl false (List.map I x.barrier.count), B x.barrier.done, .sl false (List.map I x.barrier.l), I x.sent, I x.meter.at_, I x.meter.many, I x.meter.bytes, I x.want.hits, B x.switch, .sl false (List.map eDeliv x.log), I x.polled, I x.drops]
abbrev lMemb (l : List Memb) : PV := .sl false (l.map eMemb)
abbrev llI (l : List (List Int)) : PV := .sl false (l.map lI)
abbrev llU8 (l : List (List UInt8)) : PV := .sl false (l.map lU8)
/-- memb.within -/
noncomputable def P20 (a0 : Int) (a1 : Int) (a2 : Int) (Φ : List RV → Prop) : Prop :=
 Fk (decide (a1 ≤ a0))
 (Φ [.pv (B (decide (a0 ≤ a2)))])
 (Φ [.pv (B false)])
theorem t20 (a0 : Int) (a1 : Int) (a2 : Int) {Φ : List RV → Prop} (h : P20 a0 a1 a2 Φ) : CtP Tryz.prog 20 [I a0, I a1, I a2] Φ :=
  ctP_by h 1000 [(1003, .fork [] [])] mixed Tryz.func20 rfl (by kernel_rfl) (by kernel_rfl)

/-- frag.Many -/
noncomputable def P27 (a0 : Int) (a1 : Int) (Φ : List RV → Prop) : Prop :=
 Fk (decide (a0 < 0))
 (Φ [.pv (I 0)])
 (Fk (decide (a1 < 1))
 (Φ [.pv (I 0)])
 (Fk (a0 == 0)
 (Φ [.pv (I 1)])
 (Nz a1 (
 Φ [.pv (I (w64 ((w64 (Int.tdiv (w64 (a0 - 1)) a1)) + 1)))]))))
theorem t27 (a0 : Int) (a1 : Int) {Φ : List RV → Prop} (h : P27 a0 a1 Φ) : CtP Tryz.prog 27 [I a0, I a1] Φ :=
  ctP_by h 1000 [(1002, .fork [(1005, .off)] []), (1005, .fork [] []), (3001, .fork [] []), (5003, .div)] mixed Tryz.func27 rfl (by kernel_rfl) (by kernel_rfl)

/-- rate.Start -/
noncomputable def P22 (a0 : Int) (a1 : Int) (Φ : List RV → Prop) : Prop :=
 Φ [.pv (.agg [I a0, I a1])]
theorem t22 (a0 : Int) (a1 : Int) {Φ : List RV → Prop} (h : P22 a0 a1 Φ) : CtP Tryz.prog 22 [I a0, I a1] Φ :=
  ctP_by h 1000 [] mixed Tryz.func22 rfl (by kernel_rfl) (by kernel_rfl)

/-- rate.Right -/
noncomputable def P28 (a0 : Rate) (a1 : Int) (a2 : Int) (a3 : Int) (Φ : List RV → Prop) : Prop :=
 Fk (decide (1 ≤ a1))
 (Fk (decide (a1 ≤ a2))
 (Fk (decide (a2 ≤ 1048576))
 (Fk (decide (1 ≤ a3))
 (Fk (decide (a3 ≤ 1048576))
 (Fk (decide (a1 ≤ a0.now))
 (Fk (decide (a0.now ≤ a2))
 (Fk (decide (0 ≤ a0.left))
 (Φ [.pv (B (decide (a0.left ≤ a3)))])
 (Φ [.pv (B false)]))
 (Φ [.pv (B false)]))
 (Φ [.pv (B false)]))
 (Φ [.pv (B false)]))
 (Φ [.pv (B false)]))
 (Φ [.pv (B false)]))
 (Φ [.pv (B false)]))
 (Φ [.pv (B false)])
theorem t28 (a0 : Rate) (a1 : Int) (a2 : Int) (a3 : Int) {Φ : List RV → Prop} (h : P28 a0 a1 a2 a3 Φ) : CtP Tryz.prog 28 [eRate a0, I a1, I a2, I a3] Φ :=
  ctP_by h 1000 [(1002, .fork [] [(1007, .off), (1011, .off), (1015, .off), (2001, .off), (2007, .off), (2013, .off), (2018, .off)]), (1007, .fork [] [(1011, .off), (1015, .off), (2001, .off), (2007, .off), (2013, .off), (2018, .off)]), (1011, .fork [] [(1015, .off), (2001, .off), (2007, .off), (2013, .off), (2018, .off)]), (1015, .fork [] [(2001, .off), (2007, .off), (2013, .off), (2018, .off)]), (2001, .fork [] [(2007, .off), (2013, .off), (2018, .off)]), (2007, .fork [] [(2013, .off), (2018, .off)]), (2013, .fork [] [(2018, .off)]), (2018, .fork [] [])] mixed Tryz.func28 rfl (by kernel_rfl) (by kernel_rfl)

/-- memb.Fits -/
noncomputable def P7 (a0 : Conf) (Φ : List RV → Prop) : Prop :=
 ∃ x1, Cl 20 [I a0.n, I 2, I 64] [.pv (B x1)] ∧
 Fk x1
 (∃ x2, Cl 20 [I a0.mtu, I 1, I 1024] [.pv (B x2)] ∧
 Fk x2
 (∃ x3, Cl 20 [I a0.buf, I 8, I 64] [.pv (B x3)] ∧
 Fk x3
 (∃ x4, Cl 27 [I a0.msg, I a0.mtu] [.pv (I x4)] ∧
 Fk (decide (x4 ≤ 32))
 (Fk (decide (x4 ≤ (w64 (a0.buf - 6))))
 (∃ x5, Cl 20 [I a0.quota, I 1, I 64] [.pv (B x5)] ∧
 Fk x5
 (∃ x6, Cl 20 [I a0.queue, I 1, I 64] [.pv (B x6)] ∧
 ∃ x7, Cl 20 [I a0.wait, I 1, I 1000] [.pv (B x7)] ∧
 Fk x7
 (∃ x8, Cl 20 [I a0.every, I 1, I 1000] [.pv (B x8)] ∧
 Fk x8
 (∃ x9, Cl 20 [I a0.window, I 1, I 1000] [.pv (B x9)] ∧
 Fk x9
 (∃ x10, Cl 20 [I a0.hyst, I 1, I 1000] [.pv (B x10)] ∧
 ∃ x11, Cl 22 [I a0.rate, I a0.burst] [.pv (eRate x11)] ∧
 ∃ x12, Cl 28 [eRate x11, I a0.least, I a0.rate, I a0.burst] [.pv (B x12)] ∧
 Fk (decide (0 ≤ a0.msg))
 (Fk (decide (x4 ≤ a0.burst))
 (Fk x6
 (Fk x10
 (Fk x12
 (Fk (decide (0 ≤ a0.low))
 (Fk (decide (a0.low < a0.high))
 (∃ x13, Cl 20 [I a0.first, I 0, I 1] [.pv (B x13)] ∧
 Φ [.pv (B x13)])
 (Φ [.pv (B false)]))
 (Φ [.pv (B false)]))
 (Φ [.pv (B false)]))
 (Φ [.pv (B false)]))
 (Φ [.pv (B false)]))
 (Φ [.pv (B false)]))
 (Φ [.pv (B false)]))
 (∃ x14, Cl 22 [I a0.rate, I a0.burst] [.pv (eRate x14)] ∧
 ∃ x15, Cl 28 [eRate x14, I a0.least, I a0.rate, I a0.burst] [.pv (B x15)] ∧
 Fk (decide (0 ≤ a0.msg))
 (Fk (decide (x4 ≤ a0.burst))
 (Fk x6
 (Φ [.pv (B false)])
 (Φ [.pv (B false)]))
 (Φ [.pv (B false)]))
 (Φ [.pv (B false)])))
 (∃ x16, Cl 22 [I a0.rate, I a0.burst] [.pv (eRate x16)] ∧
 ∃ x17, Cl 28 [eRate x16, I a0.least, I a0.rate, I a0.burst] [.pv (B x17)] ∧
 Fk (decide (0 ≤ a0.msg))
 (Fk (decide (x4 ≤ a0.burst))
 (Fk x6
 (Φ [.pv (B false)])
 (Φ [.pv (B false)]))
 (Φ [.pv (B false)]))
 (Φ [.pv (B false)])))
 (∃ x18, Cl 22 [I a0.rate, I a0.burst] [.pv (eRate x18)] ∧
 ∃ x19, Cl 28 [eRate x18, I a0.least, I a0.rate, I a0.burst] [.pv (B x19)] ∧
 Fk (decide (0 ≤ a0.msg))
 (Fk (decide (x4 ≤ a0.burst))
 (Fk x6
 (Φ [.pv (B false)])
 (Φ [.pv (B false)]))
 (Φ [.pv (B false)]))
 (Φ [.pv (B false)])))
 (∃ x20, Cl 20 [I a0.wait, I 1, I 1000] [.pv (B x20)] ∧
 Fk x20
 (∃ x21, Cl 20 [I a0.every, I 1, I 1000] [.pv (B x21)] ∧
 Fk x21
 (∃ x22, Cl 20 [I a0.window, I 1, I 1000] [.pv (B x22)] ∧
 Fk x22
 (∃ x23, Cl 20 [I a0.hyst, I 1, I 1000] [.pv (B x23)] ∧
 ∃ x24, Cl 22 [I a0.rate, I a0.burst] [.pv (eRate x24)] ∧
 ∃ x25, Cl 28 [eRate x24, I a0.least, I a0.rate, I a0.burst] [.pv (B x25)] ∧
 Fk (decide (0 ≤ a0.msg))
 (Fk (decide (x4 ≤ a0.burst))
 (Φ [.pv (B false)])
 (Φ [.pv (B false)]))
 (Φ [.pv (B false)]))
 (∃ x26, Cl 22 [I a0.rate, I a0.burst] [.pv (eRate x26)] ∧
 ∃ x27, Cl 28 [eRate x26, I a0.least, I a0.rate, I a0.burst] [.pv (B x27)] ∧
 Fk (decide (0 ≤ a0.msg))
 (Fk (decide (x4 ≤ a0.burst))
 (Φ [.pv (B false)])
 (Φ [.pv (B false)]))
 (Φ [.pv (B false)])))
 (∃ x28, Cl 22 [I a0.rate, I a0.burst] [.pv (eRate x28)] ∧
 ∃ x29, Cl 28 [eRate x28, I a0.least, I a0.rate, I a0.burst] [.pv (B x29)] ∧
 Fk (decide (0 ≤ a0.msg))
 (Fk (decide (x4 ≤ a0.burst))
 (Φ [.pv (B false)])
 (Φ [.pv (B false)]))
 (Φ [.pv (B false)])))
 (∃ x30, Cl 22 [I a0.rate, I a0.burst] [.pv (eRate x30)] ∧
 ∃ x31, Cl 28 [eRate x30, I a0.least, I a0.rate, I a0.burst] [.pv (B x31)] ∧
 Fk (decide (0 ≤ a0.msg))
 (Fk (decide (x4 ≤ a0.burst))
 (Φ [.pv (B false)])
 (Φ [.pv (B false)]))
 (Φ [.pv (B false)]))))
 (∃ x32, Cl 20 [I a0.quota, I 1, I 64] [.pv (B x32)] ∧
 Fk x32
 (∃ x33, Cl 20 [I a0.queue, I 1, I 64] [.pv (B x33)] ∧
 ∃ x34, Cl 20 [I a0.wait, I 1, I 1000] [.pv (B x34)] ∧
 Fk x34
 (∃ x35, Cl 20 [I a0.every, I 1, I 1000] [.pv (B x35)] ∧
 Fk x35
 (∃ x36, Cl 20 [I a0.window, I 1, I 1000] [.pv (B x36)] ∧
 Fk x36
 (∃ x37, Cl 20 [I a0.hyst, I 1, I 1000] [.pv (B x37)] ∧
 ∃ x38, Cl 22 [I a0.rate, I a0.burst] [.pv (eRate x38)] ∧
 ∃ x39, Cl 28 [eRate x38, I a0.least, I a0.rate, I a0.burst] [.pv (B x39)] ∧
 Fk (decide (0 ≤ a0.msg))
 (Φ [.pv (B false)])
 (Φ [.pv (B false)]))
 (∃ x40, Cl 22 [I a0.rate, I a0.burst] [.pv (eRate x40)] ∧
 ∃ x41, Cl 28 [eRate x40, I a0.least, I a0.rate, I a0.burst] [.pv (B x41)] ∧
 Fk (decide (0 ≤ a0.msg))
 (Φ [.pv (B false)])
 (Φ [.pv (B false)])))
 (∃ x42, Cl 22 [I a0.rate, I a0.burst] [.pv (eRate x42)] ∧
 ∃ x43, Cl 28 [eRate x42, I a0.least, I a0.rate, I a0.burst] [.pv (B x43)] ∧
 Fk (decide (0 ≤ a0.msg))
 (Φ [.pv (B false)])
 (Φ [.pv (B false)])))
 (∃ x44, Cl 22 [I a0.rate, I a0.burst] [.pv (eRate x44)] ∧
 ∃ x45, Cl 28 [eRate x44, I a0.least, I a0.rate, I a0.burst] [.pv (B x45)] ∧
 Fk (decide (0 ≤ a0.msg))
 (Φ [.pv (B false)])
 (Φ [.pv (B false)])))
 (∃ x46, Cl 20 [I a0.wait, I 1, I 1000] [.pv (B x46)] ∧
 Fk x46
 (∃ x47, Cl 20 [I a0.every, I 1, I 1000] [.pv (B x47)] ∧
 Fk x47
 (∃ x48, Cl 20 [I a0.window, I 1, I 1000] [.pv (B x48)] ∧
 Fk x48
 (∃ x49, Cl 20 [I a0.hyst, I 1, I 1000] [.pv (B x49)] ∧
 ∃ x50, Cl 22 [I a0.rate, I a0.burst] [.pv (eRate x50)] ∧
 ∃ x51, Cl 28 [eRate x50, I a0.least, I a0.rate, I a0.burst] [.pv (B x51)] ∧
 Fk (decide (0 ≤ a0.msg))
 (Φ [.pv (B false)])
 (Φ [.pv (B false)]))
 (∃ x52, Cl 22 [I a0.rate, I a0.burst] [.pv (eRate x52)] ∧
 ∃ x53, Cl 28 [eRate x52, I a0.least, I a0.rate, I a0.burst] [.pv (B x53)] ∧
 Fk (decide (0 ≤ a0.msg))
 (Φ [.pv (B false)])
 (Φ [.pv (B false)])))
 (∃ x54, Cl 22 [I a0.rate, I a0.burst] [.pv (eRate x54)] ∧
 ∃ x55, Cl 28 [eRate x54, I a0.least, I a0.rate, I a0.burst] [.pv (B x55)] ∧
 Fk (decide (0 ≤ a0.msg))
 (Φ [.pv (B false)])
 (Φ [.pv (B false)])))
 (∃ x56, Cl 22 [I a0.rate, I a0.burst] [.pv (eRate x56)] ∧
 ∃ x57, Cl 28 [eRate x56, I a0.least, I a0.rate, I a0.burst] [.pv (B x57)] ∧
 Fk (decide (0 ≤ a0.msg))
 (Φ [.pv (B false)])
 (Φ [.pv (B false)])))))
 (∃ x58, Cl 20 [I a0.quota, I 1, I 64] [.pv (B x58)] ∧
 Fk x58
 (∃ x59, Cl 20 [I a0.queue, I 1, I 64] [.pv (B x59)] ∧
 ∃ x60, Cl 20 [I a0.wait, I 1, I 1000] [.pv (B x60)] ∧
 Fk x60
 (∃ x61, Cl 20 [I a0.every, I 1, I 1000] [.pv (B x61)] ∧
 Fk x61
 (∃ x62, Cl 20 [I a0.window, I 1, I 1000] [.pv (B x62)] ∧
 Fk x62
 (∃ x63, Cl 20 [I a0.hyst, I 1, I 1000] [.pv (B x63)] ∧
 ∃ x64, Cl 22 [I a0.rate, I a0.burst] [.pv (eRate x64)] ∧
 ∃ x65, Cl 28 [eRate x64, I a0.least, I a0.rate, I a0.burst] [.pv (B x65)] ∧
 Fk (decide (0 ≤ a0.msg))
 (Φ [.pv (B false)])
 (Φ [.pv (B false)]))
 (∃ x66, Cl 22 [I a0.rate, I a0.burst] [.pv (eRate x66)] ∧
 ∃ x67, Cl 28 [eRate x66, I a0.least, I a0.rate, I a0.burst] [.pv (B x67)] ∧
 Fk (decide (0 ≤ a0.msg))
 (Φ [.pv (B false)])
 (Φ [.pv (B false)])))
 (∃ x68, Cl 22 [I a0.rate, I a0.burst] [.pv (eRate x68)] ∧
 ∃ x69, Cl 28 [eRate x68, I a0.least, I a0.rate, I a0.burst] [.pv (B x69)] ∧
 Fk (decide (0 ≤ a0.msg))
 (Φ [.pv (B false)])
 (Φ [.pv (B false)])))
 (∃ x70, Cl 22 [I a0.rate, I a0.burst] [.pv (eRate x70)] ∧
 ∃ x71, Cl 28 [eRate x70, I a0.least, I a0.rate, I a0.burst] [.pv (B x71)] ∧
 Fk (decide (0 ≤ a0.msg))
 (Φ [.pv (B false)])
 (Φ [.pv (B false)])))
 (∃ x72, Cl 20 [I a0.wait, I 1, I 1000] [.pv (B x72)] ∧
 Fk x72
 (∃ x73, Cl 20 [I a0.every, I 1, I 1000] [.pv (B x73)] ∧
 Fk x73
 (∃ x74, Cl 20 [I a0.window, I 1, I 1000] [.pv (B x74)] ∧
 Fk x74
 (∃ x75, Cl 20 [I a0.hyst, I 1, I 1000] [.pv (B x75)] ∧
 ∃ x76, Cl 22 [I a0.rate, I a0.burst] [.pv (eRate x76)] ∧
 ∃ x77, Cl 28 [eRate x76, I a0.least, I a0.rate, I a0.burst] [.pv (B x77)] ∧
 Fk (decide (0 ≤ a0.msg))
 (Φ [.pv (B false)])
 (Φ [.pv (B false)]))
 (∃ x78, Cl 22 [I a0.rate, I a0.burst] [.pv (eRate x78)] ∧
 ∃ x79, Cl 28 [eRate x78, I a0.least, I a0.rate, I a0.burst] [.pv (B x79)] ∧
 Fk (decide (0 ≤ a0.msg))
 (Φ [.pv (B false)])
 (Φ [.pv (B false)])))
 (∃ x80, Cl 22 [I a0.rate, I a0.burst] [.pv (eRate x80)] ∧
 ∃ x81, Cl 28 [eRate x80, I a0.least, I a0.rate, I a0.burst] [.pv (B x81)] ∧
 Fk (decide (0 ≤ a0.msg))
 (Φ [.pv (B false)])
 (Φ [.pv (B false)])))
 (∃ x82, Cl 22 [I a0.rate, I a0.burst] [.pv (eRate x82)] ∧
 ∃ x83, Cl 28 [eRate x82, I a0.least, I a0.rate, I a0.burst] [.pv (B x83)] ∧
 Fk (decide (0 ≤ a0.msg))
 (Φ [.pv (B false)])
 (Φ [.pv (B false)])))))
 (∃ x84, Cl 27 [I a0.msg, I a0.mtu] [.pv (I x84)] ∧
 Fk (decide (x84 ≤ 32))
 (Fk (decide (x84 ≤ (w64 (a0.buf - 6))))
 (∃ x85, Cl 20 [I a0.quota, I 1, I 64] [.pv (B x85)] ∧
 Fk x85
 (∃ x86, Cl 20 [I a0.queue, I 1, I 64] [.pv (B x86)] ∧
 ∃ x87, Cl 20 [I a0.wait, I 1, I 1000] [.pv (B x87)] ∧
 Fk x87
 (∃ x88, Cl 20 [I a0.every, I 1, I 1000] [.pv (B x88)] ∧
 Fk x88
 (∃ x89, Cl 20 [I a0.window, I 1, I 1000] [.pv (B x89)] ∧
 Fk x89
 (∃ x90, Cl 20 [I a0.hyst, I 1, I 1000] [.pv (B x90)] ∧
 ∃ x91, Cl 22 [I a0.rate, I a0.burst] [.pv (eRate x91)] ∧
 ∃ x92, Cl 28 [eRate x91, I a0.least, I a0.rate, I a0.burst] [.pv (B x92)] ∧
 Φ [.pv (B false)])
 (∃ x93, Cl 22 [I a0.rate, I a0.burst] [.pv (eRate x93)] ∧
 ∃ x94, Cl 28 [eRate x93, I a0.least, I a0.rate, I a0.burst] [.pv (B x94)] ∧
 Φ [.pv (B false)]))
 (∃ x95, Cl 22 [I a0.rate, I a0.burst] [.pv (eRate x95)] ∧
 ∃ x96, Cl 28 [eRate x95, I a0.least, I a0.rate, I a0.burst] [.pv (B x96)] ∧
 Φ [.pv (B false)]))
 (∃ x97, Cl 22 [I a0.rate, I a0.burst] [.pv (eRate x97)] ∧
 ∃ x98, Cl 28 [eRate x97, I a0.least, I a0.rate, I a0.burst] [.pv (B x98)] ∧
 Φ [.pv (B false)]))
 (∃ x99, Cl 20 [I a0.wait, I 1, I 1000] [.pv (B x99)] ∧
 Fk x99
 (∃ x100, Cl 20 [I a0.every, I 1, I 1000] [.pv (B x100)] ∧
 Fk x100
 (∃ x101, Cl 20 [I a0.window, I 1, I 1000] [.pv (B x101)] ∧
 Fk x101
 (∃ x102, Cl 20 [I a0.hyst, I 1, I 1000] [.pv (B x102)] ∧
 ∃ x103, Cl 22 [I a0.rate, I a0.burst] [.pv (eRate x103)] ∧
 ∃ x104, Cl 28 [eRate x103, I a0.least, I a0.rate, I a0.burst] [.pv (B x104)] ∧
 Φ [.pv (B false)])
 (∃ x105, Cl 22 [I a0.rate, I a0.burst] [.pv (eRate x105)] ∧
 ∃ x106, Cl 28 [eRate x105, I a0.least, I a0.rate, I a0.burst] [.pv (B x106)] ∧
 Φ [.pv (B false)]))
 (∃ x107, Cl 22 [I a0.rate, I a0.burst] [.pv (eRate x107)] ∧
 ∃ x108, Cl 28 [eRate x107, I a0.least, I a0.rate, I a0.burst] [.pv (B x108)] ∧
 Φ [.pv (B false)]))
 (∃ x109, Cl 22 [I a0.rate, I a0.burst] [.pv (eRate x109)] ∧
 ∃ x110, Cl 28 [eRate x109, I a0.least, I a0.rate, I a0.burst] [.pv (B x110)] ∧
 Φ [.pv (B false)])))
 (∃ x111, Cl 20 [I a0.quota, I 1, I 64] [.pv (B x111)] ∧
 Fk x111
 (∃ x112, Cl 20 [I a0.queue, I 1, I 64] [.pv (B x112)] ∧
 ∃ x113, Cl 20 [I a0.wait, I 1, I 1000] [.pv (B x113)] ∧
 Fk x113
 (∃ x114, Cl 20 [I a0.every, I 1, I 1000] [.pv (B x114)] ∧
 Fk x114
 (∃ x115, Cl 20 [I a0.window, I 1, I 1000] [.pv (B x115)] ∧
 Fk x115
 (∃ x116, Cl 20 [I a0.hyst, I 1, I 1000] [.pv (B x116)] ∧
 ∃ x117, Cl 22 [I a0.rate, I a0.burst] [.pv (eRate x117)] ∧
 ∃ x118, Cl 28 [eRate x117, I a0.least, I a0.rate, I a0.burst] [.pv (B x118)] ∧
 Φ [.pv (B false)])
 (∃ x119, Cl 22 [I a0.rate, I a0.burst] [.pv (eRate x119)] ∧
 ∃ x120, Cl 28 [eRate x119, I a0.least, I a0.rate, I a0.burst] [.pv (B x120)] ∧
 Φ [.pv (B false)]))
 (∃ x121, Cl 22 [I a0.rate, I a0.burst] [.pv (eRate x121)] ∧
 ∃ x122, Cl 28 [eRate x121, I a0.least, I a0.rate, I a0.burst] [.pv (B x122)] ∧
 Φ [.pv (B false)]))
 (∃ x123, Cl 22 [I a0.rate, I a0.burst] [.pv (eRate x123)] ∧
 ∃ x124, Cl 28 [eRate x123, I a0.least, I a0.rate, I a0.burst] [.pv (B x124)] ∧
 Φ [.pv (B false)]))
 (∃ x125, Cl 20 [I a0.wait, I 1, I 1000] [.pv (B x125)] ∧
 Fk x125
 (∃ x126, Cl 20 [I a0.every, I 1, I 1000] [.pv (B x126)] ∧
 Fk x126
 (∃ x127, Cl 20 [I a0.window, I 1, I 1000] [.pv (B x127)] ∧
 Fk x127
 (∃ x128, Cl 20 [I a0.hyst, I 1, I 1000] [.pv (B x128)] ∧
 ∃ x129, Cl 22 [I a0.rate, I a0.burst] [.pv (eRate x129)] ∧
 ∃ x130, Cl 28 [eRate x129, I a0.least, I a0.rate, I a0.burst] [.pv (B x130)] ∧
 Φ [.pv (B false)])
 (∃ x131, Cl 22 [I a0.rate, I a0.burst] [.pv (eRate x131)] ∧
 ∃ x132, Cl 28 [eRate x131, I a0.least, I a0.rate, I a0.burst] [.pv (B x132)] ∧
 Φ [.pv (B false)]))
 (∃ x133, Cl 22 [I a0.rate, I a0.burst] [.pv (eRate x133)] ∧
 ∃ x134, Cl 28 [eRate x133, I a0.least, I a0.rate, I a0.burst] [.pv (B x134)] ∧
 Φ [.pv (B false)]))
 (∃ x135, Cl 22 [I a0.rate, I a0.burst] [.pv (eRate x135)] ∧
 ∃ x136, Cl 28 [eRate x135, I a0.least, I a0.rate, I a0.burst] [.pv (B x136)] ∧
 Φ [.pv (B false)]))))
 (∃ x137, Cl 20 [I a0.quota, I 1, I 64] [.pv (B x137)] ∧
 Fk x137
 (∃ x138, Cl 20 [I a0.queue, I 1, I 64] [.pv (B x138)] ∧
 ∃ x139, Cl 20 [I a0.wait, I 1, I 1000] [.pv (B x139)] ∧
 Fk x139
 (∃ x140, Cl 20 [I a0.every, I 1, I 1000] [.pv (B x140)] ∧
 Fk x140
 (∃ x141, Cl 20 [I a0.window, I 1, I 1000] [.pv (B x141)] ∧
 Fk x141
 (∃ x142, Cl 20 [I a0.hyst, I 1, I 1000] [.pv (B x142)] ∧
 ∃ x143, Cl 22 [I a0.rate, I a0.burst] [.pv (eRate x143)] ∧
 ∃ x144, Cl 28 [eRate x143, I a0.least, I a0.rate, I a0.burst] [.pv (B x144)] ∧
 Φ [.pv (B false)])
 (∃ x145, Cl 22 [I a0.rate, I a0.burst] [.pv (eRate x145)] ∧
 ∃ x146, Cl 28 [eRate x145, I a0.least, I a0.rate, I a0.burst] [.pv (B x146)] ∧
 Φ [.pv (B false)]))
 (∃ x147, Cl 22 [I a0.rate, I a0.burst] [.pv (eRate x147)] ∧
 ∃ x148, Cl 28 [eRate x147, I a0.least, I a0.rate, I a0.burst] [.pv (B x148)] ∧
 Φ [.pv (B false)]))
 (∃ x149, Cl 22 [I a0.rate, I a0.burst] [.pv (eRate x149)] ∧
 ∃ x150, Cl 28 [eRate x149, I a0.least, I a0.rate, I a0.burst] [.pv (B x150)] ∧
 Φ [.pv (B false)]))
 (∃ x151, Cl 20 [I a0.wait, I 1, I 1000] [.pv (B x151)] ∧
 Fk x151
 (∃ x152, Cl 20 [I a0.every, I 1, I 1000] [.pv (B x152)] ∧
 Fk x152
 (∃ x153, Cl 20 [I a0.window, I 1, I 1000] [.pv (B x153)] ∧
 Fk x153
 (∃ x154, Cl 20 [I a0.hyst, I 1, I 1000] [.pv (B x154)] ∧
 ∃ x155, Cl 22 [I a0.rate, I a0.burst] [.pv (eRate x155)] ∧
 ∃ x156, Cl 28 [eRate x155, I a0.least, I a0.rate, I a0.burst] [.pv (B x156)] ∧
 Φ [.pv (B false)])
 (∃ x157, Cl 22 [I a0.rate, I a0.burst] [.pv (eRate x157)] ∧
 ∃ x158, Cl 28 [eRate x157, I a0.least, I a0.rate, I a0.burst] [.pv (B x158)] ∧
 Φ [.pv (B false)]))
 (∃ x159, Cl 22 [I a0.rate, I a0.burst] [.pv (eRate x159)] ∧
 ∃ x160, Cl 28 [eRate x159, I a0.least, I a0.rate, I a0.burst] [.pv (B x160)] ∧
 Φ [.pv (B false)]))
 (∃ x161, Cl 22 [I a0.rate, I a0.burst] [.pv (eRate x161)] ∧
 ∃ x162, Cl 28 [eRate x161, I a0.least, I a0.rate, I a0.burst] [.pv (B x162)] ∧
 Φ [.pv (B false)])))))
 (∃ x163, Cl 27 [I a0.msg, I a0.mtu] [.pv (I x163)] ∧
 Fk (decide (x163 ≤ 32))
 (Fk (decide (x163 ≤ (w64 (a0.buf - 6))))
 (∃ x164, Cl 20 [I a0.quota, I 1, I 64] [.pv (B x164)] ∧
 Fk x164
 (∃ x165, Cl 20 [I a0.queue, I 1, I 64] [.pv (B x165)] ∧
 ∃ x166, Cl 20 [I a0.wait, I 1, I 1000] [.pv (B x166)] ∧
 Fk x166
 (∃ x167, Cl 20 [I a0.every, I 1, I 1000] [.pv (B x167)] ∧
 Fk x167
 (∃ x168, Cl 20 [I a0.window, I 1, I 1000] [.pv (B x168)] ∧
 Fk x168
 (∃ x169, Cl 20 [I a0.hyst, I 1, I 1000] [.pv (B x169)] ∧
 ∃ x170, Cl 22 [I a0.rate, I a0.burst] [.pv (eRate x170)] ∧
 ∃ x171, Cl 28 [eRate x170, I a0.least, I a0.rate, I a0.burst] [.pv (B x171)] ∧
 Φ [.pv (B false)])
 (∃ x172, Cl 22 [I a0.rate, I a0.burst] [.pv (eRate x172)] ∧
 ∃ x173, Cl 28 [eRate x172, I a0.least, I a0.rate, I a0.burst] [.pv (B x173)] ∧
 Φ [.pv (B false)]))
 (∃ x174, Cl 22 [I a0.rate, I a0.burst] [.pv (eRate x174)] ∧
 ∃ x175, Cl 28 [eRate x174, I a0.least, I a0.rate, I a0.burst] [.pv (B x175)] ∧
 Φ [.pv (B false)]))
 (∃ x176, Cl 22 [I a0.rate, I a0.burst] [.pv (eRate x176)] ∧
 ∃ x177, Cl 28 [eRate x176, I a0.least, I a0.rate, I a0.burst] [.pv (B x177)] ∧
 Φ [.pv (B false)]))
 (∃ x178, Cl 20 [I a0.wait, I 1, I 1000] [.pv (B x178)] ∧
 Fk x178
 (∃ x179, Cl 20 [I a0.every, I 1, I 1000] [.pv (B x179)] ∧
 Fk x179
 (∃ x180, Cl 20 [I a0.window, I 1, I 1000] [.pv (B x180)] ∧
 Fk x180
 (∃ x181, Cl 20 [I a0.hyst, I 1, I 1000] [.pv (B x181)] ∧
 ∃ x182, Cl 22 [I a0.rate, I a0.burst] [.pv (eRate x182)] ∧
 ∃ x183, Cl 28 [eRate x182, I a0.least, I a0.rate, I a0.burst] [.pv (B x183)] ∧
 Φ [.pv (B false)])
 (∃ x184, Cl 22 [I a0.rate, I a0.burst] [.pv (eRate x184)] ∧
 ∃ x185, Cl 28 [eRate x184, I a0.least, I a0.rate, I a0.burst] [.pv (B x185)] ∧
 Φ [.pv (B false)]))
 (∃ x186, Cl 22 [I a0.rate, I a0.burst] [.pv (eRate x186)] ∧
 ∃ x187, Cl 28 [eRate x186, I a0.least, I a0.rate, I a0.burst] [.pv (B x187)] ∧
 Φ [.pv (B false)]))
 (∃ x188, Cl 22 [I a0.rate, I a0.burst] [.pv (eRate x188)] ∧
 ∃ x189, Cl 28 [eRate x188, I a0.least, I a0.rate, I a0.burst] [.pv (B x189)] ∧
 Φ [.pv (B false)])))
 (∃ x190, Cl 20 [I a0.quota, I 1, I 64] [.pv (B x190)] ∧
 Fk x190
 (∃ x191, Cl 20 [I a0.queue, I 1, I 64] [.pv (B x191)] ∧
 ∃ x192, Cl 20 [I a0.wait, I 1, I 1000] [.pv (B x192)] ∧
 Fk x192
 (∃ x193, Cl 20 [I a0.every, I 1, I 1000] [.pv (B x193)] ∧
 Fk x193
 (∃ x194, Cl 20 [I a0.window, I 1, I 1000] [.pv (B x194)] ∧
 Fk x194
 (∃ x195, Cl 20 [I a0.hyst, I 1, I 1000] [.pv (B x195)] ∧
 ∃ x196, Cl 22 [I a0.rate, I a0.burst] [.pv (eRate x196)] ∧
 ∃ x197, Cl 28 [eRate x196, I a0.least, I a0.rate, I a0.burst] [.pv (B x197)] ∧
 Φ [.pv (B false)])
 (∃ x198, Cl 22 [I a0.rate, I a0.burst] [.pv (eRate x198)] ∧
 ∃ x199, Cl 28 [eRate x198, I a0.least, I a0.rate, I a0.burst] [.pv (B x199)] ∧
 Φ [.pv (B false)]))
 (∃ x200, Cl 22 [I a0.rate, I a0.burst] [.pv (eRate x200)] ∧
 ∃ x201, Cl 28 [eRate x200, I a0.least, I a0.rate, I a0.burst] [.pv (B x201)] ∧
 Φ [.pv (B false)]))
 (∃ x202, Cl 22 [I a0.rate, I a0.burst] [.pv (eRate x202)] ∧
 ∃ x203, Cl 28 [eRate x202, I a0.least, I a0.rate, I a0.burst] [.pv (B x203)] ∧
 Φ [.pv (B false)]))
 (∃ x204, Cl 20 [I a0.wait, I 1, I 1000] [.pv (B x204)] ∧
 Fk x204
 (∃ x205, Cl 20 [I a0.every, I 1, I 1000] [.pv (B x205)] ∧
 Fk x205
 (∃ x206, Cl 20 [I a0.window, I 1, I 1000] [.pv (B x206)] ∧
 Fk x206
 (∃ x207, Cl 20 [I a0.hyst, I 1, I 1000] [.pv (B x207)] ∧
 ∃ x208, Cl 22 [I a0.rate, I a0.burst] [.pv (eRate x208)] ∧
 ∃ x209, Cl 28 [eRate x208, I a0.least, I a0.rate, I a0.burst] [.pv (B x209)] ∧
 Φ [.pv (B false)])
 (∃ x210, Cl 22 [I a0.rate, I a0.burst] [.pv (eRate x210)] ∧
 ∃ x211, Cl 28 [eRate x210, I a0.least, I a0.rate, I a0.burst] [.pv (B x211)] ∧
 Φ [.pv (B false)]))
 (∃ x212, Cl 22 [I a0.rate, I a0.burst] [.pv (eRate x212)] ∧
 ∃ x213, Cl 28 [eRate x212, I a0.least, I a0.rate, I a0.burst] [.pv (B x213)] ∧
 Φ [.pv (B false)]))
 (∃ x214, Cl 22 [I a0.rate, I a0.burst] [.pv (eRate x214)] ∧
 ∃ x215, Cl 28 [eRate x214, I a0.least, I a0.rate, I a0.burst] [.pv (B x215)] ∧
 Φ [.pv (B false)]))))
 (∃ x216, Cl 20 [I a0.quota, I 1, I 64] [.pv (B x216)] ∧
 Fk x216
 (∃ x217, Cl 20 [I a0.queue, I 1, I 64] [.pv (B x217)] ∧
 ∃ x218, Cl 20 [I a0.wait, I 1, I 1000] [.pv (B x218)] ∧
 Fk x218
 (∃ x219, Cl 20 [I a0.every, I 1, I 1000] [.pv (B x219)] ∧
 Fk x219
 (∃ x220, Cl 20 [I a0.window, I 1, I 1000] [.pv (B x220)] ∧
 Fk x220
 (∃ x221, Cl 20 [I a0.hyst, I 1, I 1000] [.pv (B x221)] ∧
 ∃ x222, Cl 22 [I a0.rate, I a0.burst] [.pv (eRate x222)] ∧
 ∃ x223, Cl 28 [eRate x222, I a0.least, I a0.rate, I a0.burst] [.pv (B x223)] ∧
 Φ [.pv (B false)])
 (∃ x224, Cl 22 [I a0.rate, I a0.burst] [.pv (eRate x224)] ∧
 ∃ x225, Cl 28 [eRate x224, I a0.least, I a0.rate, I a0.burst] [.pv (B x225)] ∧
 Φ [.pv (B false)]))
 (∃ x226, Cl 22 [I a0.rate, I a0.burst] [.pv (eRate x226)] ∧
 ∃ x227, Cl 28 [eRate x226, I a0.least, I a0.rate, I a0.burst] [.pv (B x227)] ∧
 Φ [.pv (B false)]))
 (∃ x228, Cl 22 [I a0.rate, I a0.burst] [.pv (eRate x228)] ∧
 ∃ x229, Cl 28 [eRate x228, I a0.least, I a0.rate, I a0.burst] [.pv (B x229)] ∧
 Φ [.pv (B false)]))
 (∃ x230, Cl 20 [I a0.wait, I 1, I 1000] [.pv (B x230)] ∧
 Fk x230
 (∃ x231, Cl 20 [I a0.every, I 1, I 1000] [.pv (B x231)] ∧
 Fk x231
 (∃ x232, Cl 20 [I a0.window, I 1, I 1000] [.pv (B x232)] ∧
 Fk x232
 (∃ x233, Cl 20 [I a0.hyst, I 1, I 1000] [.pv (B x233)] ∧
 ∃ x234, Cl 22 [I a0.rate, I a0.burst] [.pv (eRate x234)] ∧
 ∃ x235, Cl 28 [eRate x234, I a0.least, I a0.rate, I a0.burst] [.pv (B x235)] ∧
 Φ [.pv (B false)])
 (∃ x236, Cl 22 [I a0.rate, I a0.burst] [.pv (eRate x236)] ∧
 ∃ x237, Cl 28 [eRate x236, I a0.least, I a0.rate, I a0.burst] [.pv (B x237)] ∧
 Φ [.pv (B false)]))
 (∃ x238, Cl 22 [I a0.rate, I a0.burst] [.pv (eRate x238)] ∧
 ∃ x239, Cl 28 [eRate x238, I a0.least, I a0.rate, I a0.burst] [.pv (B x239)] ∧
 Φ [.pv (B false)]))
 (∃ x240, Cl 22 [I a0.rate, I a0.burst] [.pv (eRate x240)] ∧
 ∃ x241, Cl 28 [eRate x240, I a0.least, I a0.rate, I a0.burst] [.pv (B x241)] ∧
 Φ [.pv (B false)])))))
 (∃ x242, Cl 27 [I a0.msg, I a0.mtu] [.pv (I x242)] ∧
 Fk (decide (x242 ≤ 32))
 (Fk (decide (x242 ≤ (w64 (a0.buf - 6))))
 (∃ x243, Cl 20 [I a0.quota, I 1, I 64] [.pv (B x243)] ∧
 Fk x243
 (∃ x244, Cl 20 [I a0.queue, I 1, I 64] [.pv (B x244)] ∧
 ∃ x245, Cl 20 [I a0.wait, I 1, I 1000] [.pv (B x245)] ∧
 Fk x245
 (∃ x246, Cl 20 [I a0.every, I 1, I 1000] [.pv (B x246)] ∧
 Fk x246
 (∃ x247, Cl 20 [I a0.window, I 1, I 1000] [.pv (B x247)] ∧
 Fk x247
 (∃ x248, Cl 20 [I a0.hyst, I 1, I 1000] [.pv (B x248)] ∧
 ∃ x249, Cl 22 [I a0.rate, I a0.burst] [.pv (eRate x249)] ∧
 ∃ x250, Cl 28 [eRate x249, I a0.least, I a0.rate, I a0.burst] [.pv (B x250)] ∧
 Φ [.pv (B false)])
 (∃ x251, Cl 22 [I a0.rate, I a0.burst] [.pv (eRate x251)] ∧
 ∃ x252, Cl 28 [eRate x251, I a0.least, I a0.rate, I a0.burst] [.pv (B x252)] ∧
 Φ [.pv (B false)]))
 (∃ x253, Cl 22 [I a0.rate, I a0.burst] [.pv (eRate x253)] ∧
 ∃ x254, Cl 28 [eRate x253, I a0.least, I a0.rate, I a0.burst] [.pv (B x254)] ∧
 Φ [.pv (B false)]))
 (∃ x255, Cl 22 [I a0.rate, I a0.burst] [.pv (eRate x255)] ∧
 ∃ x256, Cl 28 [eRate x255, I a0.least, I a0.rate, I a0.burst] [.pv (B x256)] ∧
 Φ [.pv (B false)]))
 (∃ x257, Cl 20 [I a0.wait, I 1, I 1000] [.pv (B x257)] ∧
 Fk x257
 (∃ x258, Cl 20 [I a0.every, I 1, I 1000] [.pv (B x258)] ∧
 Fk x258
 (∃ x259, Cl 20 [I a0.window, I 1, I 1000] [.pv (B x259)] ∧
 Fk x259
 (∃ x260, Cl 20 [I a0.hyst, I 1, I 1000] [.pv (B x260)] ∧
 ∃ x261, Cl 22 [I a0.rate, I a0.burst] [.pv (eRate x261)] ∧
 ∃ x262, Cl 28 [eRate x261, I a0.least, I a0.rate, I a0.burst] [.pv (B x262)] ∧
 Φ [.pv (B false)])
 (∃ x263, Cl 22 [I a0.rate, I a0.burst] [.pv (eRate x263)] ∧
 ∃ x264, Cl 28 [eRate x263, I a0.least, I a0.rate, I a0.burst] [.pv (B x264)] ∧
 Φ [.pv (B false)]))
 (∃ x265, Cl 22 [I a0.rate, I a0.burst] [.pv (eRate x265)] ∧
 ∃ x266, Cl 28 [eRate x265, I a0.least, I a0.rate, I a0.burst] [.pv (B x266)] ∧
 Φ [.pv (B false)]))
 (∃ x267, Cl 22 [I a0.rate, I a0.burst] [.pv (eRate x267)] ∧
 ∃ x268, Cl 28 [eRate x267, I a0.least, I a0.rate, I a0.burst] [.pv (B x268)] ∧
 Φ [.pv (B false)])))
 (∃ x269, Cl 20 [I a0.quota, I 1, I 64] [.pv (B x269)] ∧
 Fk x269
 (∃ x270, Cl 20 [I a0.queue, I 1, I 64] [.pv (B x270)] ∧
 ∃ x271, Cl 20 [I a0.wait, I 1, I 1000] [.pv (B x271)] ∧
 Fk x271
 (∃ x272, Cl 20 [I a0.every, I 1, I 1000] [.pv (B x272)] ∧
 Fk x272
 (∃ x273, Cl 20 [I a0.window, I 1, I 1000] [.pv (B x273)] ∧
 Fk x273
 (∃ x274, Cl 20 [I a0.hyst, I 1, I 1000] [.pv (B x274)] ∧
 ∃ x275, Cl 22 [I a0.rate, I a0.burst] [.pv (eRate x275)] ∧
 ∃ x276, Cl 28 [eRate x275, I a0.least, I a0.rate, I a0.burst] [.pv (B x276)] ∧
 Φ [.pv (B false)])
 (∃ x277, Cl 22 [I a0.rate, I a0.burst] [.pv (eRate x277)] ∧
 ∃ x278, Cl 28 [eRate x277, I a0.least, I a0.rate, I a0.burst] [.pv (B x278)] ∧
 Φ [.pv (B false)]))
 (∃ x279, Cl 22 [I a0.rate, I a0.burst] [.pv (eRate x279)] ∧
 ∃ x280, Cl 28 [eRate x279, I a0.least, I a0.rate, I a0.burst] [.pv (B x280)] ∧
 Φ [.pv (B false)]))
 (∃ x281, Cl 22 [I a0.rate, I a0.burst] [.pv (eRate x281)] ∧
 ∃ x282, Cl 28 [eRate x281, I a0.least, I a0.rate, I a0.burst] [.pv (B x282)] ∧
 Φ [.pv (B false)]))
 (∃ x283, Cl 20 [I a0.wait, I 1, I 1000] [.pv (B x283)] ∧
 Fk x283
 (∃ x284, Cl 20 [I a0.every, I 1, I 1000] [.pv (B x284)] ∧
 Fk x284
 (∃ x285, Cl 20 [I a0.window, I 1, I 1000] [.pv (B x285)] ∧
 Fk x285
 (∃ x286, Cl 20 [I a0.hyst, I 1, I 1000] [.pv (B x286)] ∧
 ∃ x287, Cl 22 [I a0.rate, I a0.burst] [.pv (eRate x287)] ∧
 ∃ x288, Cl 28 [eRate x287, I a0.least, I a0.rate, I a0.burst] [.pv (B x288)] ∧
 Φ [.pv (B false)])
 (∃ x289, Cl 22 [I a0.rate, I a0.burst] [.pv (eRate x289)] ∧
 ∃ x290, Cl 28 [eRate x289, I a0.least, I a0.rate, I a0.burst] [.pv (B x290)] ∧
 Φ [.pv (B false)]))
 (∃ x291, Cl 22 [I a0.rate, I a0.burst] [.pv (eRate x291)] ∧
 ∃ x292, Cl 28 [eRate x291, I a0.least, I a0.rate, I a0.burst] [.pv (B x292)] ∧
 Φ [.pv (B false)]))
 (∃ x293, Cl 22 [I a0.rate, I a0.burst] [.pv (eRate x293)] ∧
 ∃ x294, Cl 28 [eRate x293, I a0.least, I a0.rate, I a0.burst] [.pv (B x294)] ∧
 Φ [.pv (B false)]))))
 (∃ x295, Cl 20 [I a0.quota, I 1, I 64] [.pv (B x295)] ∧
 Fk x295
 (∃ x296, Cl 20 [I a0.queue, I 1, I 64] [.pv (B x296)] ∧
 ∃ x297, Cl 20 [I a0.wait, I 1, I 1000] [.pv (B x297)] ∧
 Fk x297
 (∃ x298, Cl 20 [I a0.every, I 1, I 1000] [.pv (B x298)] ∧
 Fk x298
 (∃ x299, Cl 20 [I a0.window, I 1, I 1000] [.pv (B x299)] ∧
 Fk x299
 (∃ x300, Cl 20 [I a0.hyst, I 1, I 1000] [.pv (B x300)] ∧
 ∃ x301, Cl 22 [I a0.rate, I a0.burst] [.pv (eRate x301)] ∧
 ∃ x302, Cl 28 [eRate x301, I a0.least, I a0.rate, I a0.burst] [.pv (B x302)] ∧
 Φ [.pv (B false)])
 (∃ x303, Cl 22 [I a0.rate, I a0.burst] [.pv (eRate x303)] ∧
 ∃ x304, Cl 28 [eRate x303, I a0.least, I a0.rate, I a0.burst] [.pv (B x304)] ∧
 Φ [.pv (B false)]))
 (∃ x305, Cl 22 [I a0.rate, I a0.burst] [.pv (eRate x305)] ∧
 ∃ x306, Cl 28 [eRate x305, I a0.least, I a0.rate, I a0.burst] [.pv (B x306)] ∧
 Φ [.pv (B false)]))
 (∃ x307, Cl 22 [I a0.rate, I a0.burst] [.pv (eRate x307)] ∧
 ∃ x308, Cl 28 [eRate x307, I a0.least, I a0.rate, I a0.burst] [.pv (B x308)] ∧
 Φ [.pv (B false)]))
 (∃ x309, Cl 20 [I a0.wait, I 1, I 1000] [.pv (B x309)] ∧
 Fk x309
 (∃ x310, Cl 20 [I a0.every, I 1, I 1000] [.pv (B x310)] ∧
 Fk x310
 (∃ x311, Cl 20 [I a0.window, I 1, I 1000] [.pv (B x311)] ∧
 Fk x311
 (∃ x312, Cl 20 [I a0.hyst, I 1, I 1000] [.pv (B x312)] ∧
 ∃ x313, Cl 22 [I a0.rate, I a0.burst] [.pv (eRate x313)] ∧
 ∃ x314, Cl 28 [eRate x313, I a0.least, I a0.rate, I a0.burst] [.pv (B x314)] ∧
 Φ [.pv (B false)])
 (∃ x315, Cl 22 [I a0.rate, I a0.burst] [.pv (eRate x315)] ∧
 ∃ x316, Cl 28 [eRate x315, I a0.least, I a0.rate, I a0.burst] [.pv (B x316)] ∧
 Φ [.pv (B false)]))
 (∃ x317, Cl 22 [I a0.rate, I a0.burst] [.pv (eRate x317)] ∧
 ∃ x318, Cl 28 [eRate x317, I a0.least, I a0.rate, I a0.burst] [.pv (B x318)] ∧
 Φ [.pv (B false)]))
 (∃ x319, Cl 22 [I a0.rate, I a0.burst] [.pv (eRate x319)] ∧
 ∃ x320, Cl 28 [eRate x319, I a0.least, I a0.rate, I a0.burst] [.pv (B x320)] ∧
 Φ [.pv (B false)]))))
theorem t7 (a0 : Conf) {Φ : List RV → Prop} (h : P7 a0 Φ) : CtP Tryz.prog 7 [eConf a0] Φ :=
  ctP_by h 1000 [(1002, .call [.pv .bool]), (1003, .fork [] [(1008, .off), (1013, .off), (7001, .off), (7004, .off), (7007, .off), (7010, .off), (7013, .off), (7018, .off), (7025, .off), (5013, .fork [] []), (5008, .fork [] [(5013, .off)]), (5003, .fork [] [(5008, .off), (5013, .off)]), (4003, .fork [] []), (3009, .fork [] []), (3002, .fork [] [(3009, .off)])]), (1006, .call [.pv .bool]), (1008, .fork [] [(1013, .off), (7001, .off), (7004, .off), (7007, .off), (7010, .off), (7013, .off), (7018, .off), (7025, .off), (5013, .fork [] []), (5008, .fork [] [(5013, .off)]), (5003, .fork [] [(5008, .off), (5013, .off)]), (4003, .fork [] []), (3009, .fork [] []), (3002, .fork [] [(3009, .off)])]), (1011, .call [.pv .bool]), (1013, .fork [] [(7001, .off), (7004, .off), (7007, .off), (7010, .off), (7013, .off), (7018, .off), (7025, .off), (5013, .fork [] []), (5008, .fork [] [(5013, .off)]), (5003, .fork [] [(5008, .off), (5013, .off)]), (4003, .fork [] []), (3009, .fork [] []), (3002, .fork [] [(3009, .off)])]), (2004, .call [.pv (.int .i64)]), (3002, .fork [] [(3009, .off), (7004, .off), (7007, .off), (7010, .off), (7013, .off), (7018, .off), (7025, .off), (7001, .fork [] []), (5013, .fork [] []), (5008, .fork [] [(5013, .off)]), (5003, .fork [] [(5008, .off), (5013, .off)]), (4003, .fork [] [])]), (3009, .fork [] [(7004, .off), (7007, .off), (7010, .off), (7013, .off), (7018, .off), (7025, .off), (7001, .fork [] []), (5013, .fork [] []), (5008, .fork [] [(5013, .off)]), (5003, .fork [] [(5008, .off), (5013, .off)]), (4003, .fork [] [])]), (4002, .call [.pv .bool]), (4003, .fork [] [(7007, .off), (7010, .off), (7013, .off), (7018, .off), (7025, .off), (7004, .fork [] []), (7001, .fork [] [(7004, .off)]), (5013, .fork [] []), (5008, .fork [] [(5013, .off)]), (5003, .fork [] [(5008, .off), (5013, .off)])]), (4006, .call [.pv .bool]), (5002, .call [.pv .bool]), (5003, .fork [] [(5008, .off), (5013, .off), (7010, .off), (7013, .off), (7018, .off), (7025, .off), (7007, .fork [] []), (7004, .fork [] [(7007, .off)]), (7001, .fork [] [(7004, .off), (7007, .off)])]), (5006, .call [.pv .bool]), (5008, .fork [] [(5013, .off), (7010, .off), (7013, .off), (7018, .off), (7025, .off), (7007, .fork [] []), (7004, .fork [] [(7007, .off)]), (7001, .fork [] [(7004, .off), (7007, .off)])]), (5011, .call [.pv .bool]), (5013, .fork [] [(7010, .off), (7013, .off), (7018, .off), (7025, .off), (7007, .fork [] []), (7004, .fork [] [(7007, .off)]), (7001, .fork [] [(7004, .off), (7007, .off)])]), (5016, .call [.pv .bool]), (6004, .call [.pv (.ty Rate eRate)]), (6011, .call [.pv .bool]), (7001, .fork [] [(7004, .off), (7007, .off), (7010, .off), (7013, .off), (7018, .off), (7025, .off)]), (7004, .fork [] [(7007, .off), (7010, .off), (7013, .off), (7018, .off), (7025, .off)]), (7007, .fork [] [(7010, .off), (7013, .off), (7018, .off), (7025, .off)]), (7010, .fork [] [(7013, .off), (7018, .off), (7025, .off)]), (7013, .fork [] [(7018, .off), (7025, .off)]), (7018, .fork [] [(7025, .off)]), (7025, .fork [] []), (7028, .call [.pv .bool])] mixed Tryz.func7 rfl (by kernel_rfl) (by kernel_rfl)

/-- keep.New -/
noncomputable def P59  (Φ : List RV → Prop) : Prop :=
 Φ [.pv (.agg [I 1, .sl true []])]
theorem t59  {Φ : List RV → Prop} (h : P59  Φ) : CtP Tryz.prog 59 [] Φ :=
  ctP_by h 1000 [] mixed Tryz.func59 rfl (by kernel_rfl) (by kernel_rfl)

/-- win.New -/
noncomputable def P60  (Φ : List RV → Prop) : Prop :=
 Φ [.pv (.agg [I 1, .sl true []])]
theorem t60  {Φ : List RV → Prop} (h : P60  Φ) : CtP Tryz.prog 60 [] Φ :=
  ctP_by h 1000 [] mixed Tryz.func60 rfl (by kernel_rfl) (by kernel_rfl)

/-- rel.New -/
noncomputable def P21 (a0 : Int) (a1 : Int) (Φ : List RV → Prop) : Prop :=
 ∃ x1, Cl 59 [] [.pv (eKeep x1)] ∧
 Mk 32 a1 a1 (
 Mk 8 a1 a1 (
 Mk 8 a1 a1 (
 Mk 24 a1 a1 (
 SmA (.pv (I a1)) ∧ SmA (.bp 65568 0) ∧ SmA (.bp 131112 0) ∧ SmA (.pv (I a1)) ∧ SmA (.pv (I 0)) ∧ SmA (.pv (I 0)) ∧ SmA (.pv (I 0)) ∧ SmA (.pv (.sl true [])) ∧ SmA (.pv (.sl true [])) ∧ SmA (.pv (.sl true [])) ∧ SmA (.pv (.sl true [])) ∧ SmA (.pv (.sl true [])) ∧ SmA (.pv (.sl true [])) ∧ SmA (.pv (I 0)) ∧ SmA (.pv (I a0)) ∧ SmA (.pv (I 0)) ∧ SmA (.pv (.sl true [])) ∧ SmA (.pv (I 0)) ∧ Lo (fun (L3 : Int × Unit × (Int × (List PV) × (List PV) × (List PV) × (List PV) × (List PV) × Unit) × Unit → Prop) (v2 : Int × Unit × (Int × (List PV) × (List PV) × (List PV) × (List PV) × (List PV) × Unit) × Unit) =>
 Fk (decide (v2.1 < a1))
 (∃ x4, Cl 60 [] [.pv (eWin x4)] ∧
 Rx v2.1 v2.2.2.1.2.2.1.length (
 Ld (fun x : PV × PV => PV.agg [x.1, x.2]) v2.2.2.1.2.2.1 (0 + v2.1.toNat) fun x5 =>
 Mk 8 a1 a1 (
 Rx v2.1 v2.2.2.1.2.2.2.2.2.1.length (
 Ld (fun x : Bool × List PV => PV.sl x.1 x.2) v2.2.2.1.2.2.2.2.2.1 (0 + v2.1.toNat) fun x6 =>
 SmA (.pv (I a1)) ∧ SmA (.bp 65568 0) ∧ SmA (.bp 131112 0) ∧ SmA (.pv (I a1)) ∧ SmA (.pv (I 0)) ∧ SmA (.pv (I 0)) ∧ SmA (.pv (I 0)) ∧ SmA (.pv (.sl true [])) ∧ SmA (.pv (.sl true [])) ∧ SmA (.pv (.sl true [])) ∧ SmA (.pv (.sl true [])) ∧ SmA (.pv (.sl true [])) ∧ SmA (.pv (.sl true [])) ∧ SmA (.pv (I 0)) ∧ SmA (.pv (I a0)) ∧ SmA (.pv (I 0)) ∧ SmA (.pv (.sl true [])) ∧ SmA (.pv (I 0)) ∧ L3 (w64 (v2.1 + 1), (), (v2.2.2.1.1, v2.2.2.1.2.1, v2.2.2.1.2.2.1.set (0 + v2.1.toNat) (eWin x4), v2.2.2.1.2.2.2.1, v2.2.2.1.2.2.2.2.1, v2.2.2.1.2.2.2.2.2.1.set (0 + v2.1.toNat) (.sl false (List.replicate a1.toNat (I 0))), ()), ())))))
 (Φ [.pv (.agg [I a0, I 0, I v2.2.2.1.1, .sl false v2.2.2.1.2.1, .sl false v2.2.2.1.2.2.1, .sl false v2.2.2.1.2.2.2.1, .sl false v2.2.2.1.2.2.2.2.1, .sl false v2.2.2.1.2.2.2.2.2.1, .sl true [], I 0])])) (0, (), (x1.next, List.map eItem x1.l, List.replicate a1.toNat (.agg [I 0, .sl true []]), List.replicate a1.toNat (I 0), List.replicate a1.toNat (.agg [I 0]), List.replicate a1.toNat (.sl true []), ()), ())))))
theorem t21 (a0 : Int) (a1 : Int) {Φ : List RV → Prop} (h : P21 a0 a1 Φ) : CtP Tryz.prog 21 [I a0, I a1] Φ :=
  ctP_by h 1000 [(1001, .call [.pv (.ty Keep eKeep)]), (1003, .mk), (1005, .mk), (1007, .mk), (1009, .mk), (3000, .fork [] []), (3999, .loop [.k 1 (.pv (I a1)), .k 4 (.bp 65568 0), .k 5 (.bp 131112 0), .k 18 (.pv (I a1)), .c 19 (.int .i64), .box 65568 true [.k (.pv (I 0)), .k (.pv (I 0)), .k (.pv (I 0)), .k (.pv (.sl true [])), .k (.pv (.sl true [])), .k (.pv (.sl true [])), .k (.pv (.sl true [])), .k (.pv (.sl true [])), .k (.pv (.sl true [])), .k (.pv (I 0))], .box 131112 true [.k (.pv (I a0)), .k (.pv (I 0)), .h (.int .i64), .h .sl, .r 262147 109 2, .r 262155 3 1, .r 262163 114 1, .r 262171 29 1, .k (.pv (.sl true [])), .k (.pv (I 0))]]), (5003, .call [.pv (.ty Win eWin)]), (5004, .ixr), (5005, .st (PV × PV) (fun x : PV × PV => PV.agg [x.1, x.2])), (6004, .mk), (6005, .ixr), (6006, .st (Bool × List PV) (fun x : Bool × List PV => PV.sl x.1 x.2))] mixed Tryz.func21 rfl (by kernel_rfl) (by kernel_rfl)

/-- flush.New -/
noncomputable def P23 (a0 : Int) (Φ : List RV → Prop) : Prop :=
 Mk 1 a0 a0 (
 Mk 8 a0 a0 (
 Φ [.pv (.agg [B false, I 0, .sl false (List.replicate a0.toNat (B false)), .sl false (List.replicate a0.toNat (I 0)), B false, .sl true []])]))
theorem t23 (a0 : Int) {Φ : List RV → Prop} (h : P23 a0 Φ) : CtP Tryz.prog 23 [I a0] Φ :=
  ctP_by h 1000 [(1001, .mk), (1003, .mk)] mixed Tryz.func23 rfl (by kernel_rfl) (by kernel_rfl)

/-- memb.New -/
noncomputable def P5 (a0 : Conf) (a1 : Int) (Φ : List RV → Prop) : Prop :=
 ∃ x1, Cl 7 [eConf a0] [.pv (B x1)] ∧
 Fk (!x1)
 (Φ [.pv (.agg [I 0, I 0, I 0, I 0, I 0, I 0, I 0, I 0, I 0, I 0, I 0, I 0, I 0, I 0, I 0, B false, I 0, B false, I 0, I 0, I 0, .sl true [], .sl true [], .sl true [], .sl true [], .sl true [], .sl true [], I 0, .sl true [], I 0, I 0, I 0, I 0, .sl true [], I 0, I 0, B false, I 0, .sl true [], .sl true [], B false, .sl true [], I 0, I 0, I 0, I 0, I 0, B false, .sl true [], I 0, I 0]), .pv (I 1)])
 (∃ x2, Cl 20 [I a1, I 0, I (w64 (a0.n - 1))] [.pv (B x2)] ∧
 Fk (!x2)
 (Φ [.pv (.agg [I 0, I 0, I 0, I 0, I 0, I 0, I 0, I 0, I 0, I 0, I 0, I 0, I 0, I 0, I 0, B false, I 0, B false, I 0, I 0, I 0, .sl true [], .sl true [], .sl true [], .sl true [], .sl true [], .sl true [], I 0, .sl true [], I 0, I 0, I 0, I 0, .sl true [], I 0, I 0, B false, I 0, .sl true [], .sl true [], B false, .sl true [], I 0, I 0, I 0, I 0, I 0, B false, .sl true [], I 0, I 0]), .pv (I 1)])
 (∃ x3, Cl 21 [I a1, I a0.n] [.pv (eRel x3)] ∧
 ∃ x4, Cl 22 [I a0.rate, I a0.burst] [.pv (eRate x4)] ∧
 Mk 72 a0.n a0.n (
 ∃ x5, Cl 23 [I a0.n] [.pv (eBarrier x5)] ∧
 Φ [.pv (.agg [I a0.n, I a0.mtu, I a0.msg, I a0.buf, I a0.quota, I a0.queue, I a0.wait, I a0.every, I a0.least, I a0.rate, I a0.burst, I a0.high, I a0.low, I a0.window, I a0.hyst, B a0.byLoad, I a0.first, B false, I x3.me, I x3.now, I x3.keep.next, .sl false (List.map eItem x3.keep.l), .sl false (List.map eWin x3.win), .sl false (List.map I x3.top), .sl false (List.map eAsk x3.ask), .sl false (List.map lI x3.have_), .sl false (List.map I x3.lost), I x3.naks, .sl true [], I x4.now, I x4.left, I 0, I a0.first, .sl false (List.replicate a0.n.toNat (.agg [.sl true [], I 0, I 0, I 0, .sl true []])), I 0, I 0, B x5.on, I x5.next, .sl false (List.map B x5.acked), .sl false (List.map I x5.count), B x5.done, .sl false (List.map I x5.l), I 0, I 0, I 0, I 0, I 0, B false, .sl true [], I 0, I 0]), .pv (I 0)])))
theorem t5 (a0 : Conf) (a1 : Int) {Φ : List RV → Prop} (h : P5 a0 a1 Φ) : CtP Tryz.prog 5 [eConf a0, I a1] Φ :=
  ctP_by h 1000 [(1001, .call [.pv .bool]), (1003, .fork [(1010, .off)] []), (1008, .call [.pv .bool]), (1010, .fork [] []), (3004, .call [.pv (.ty Rel eRel)]), (3009, .call [.pv (.ty Rate eRate)]), (3014, .mk), (3017, .call [.pv (.ty Barrier eBarrier)])] mixed Tryz.func5 rfl (by kernel_rfl) (by kernel_rfl)

/-- precentorref21.in -/
noncomputable def P29 (a0 : Int) (a1 : Int) (a2 : Int) (Φ : List RV → Prop) : Prop :=
 Fk (decide (a1 ≤ a0))
 (Φ [.pv (B (decide (a0 ≤ a2)))])
 (Φ [.pv (B false)])
theorem t29 (a0 : Int) (a1 : Int) (a2 : Int) {Φ : List RV → Prop} (h : P29 a0 a1 a2 Φ) : CtP Tryz.prog 29 [I a0, I a1, I a2] Φ :=
  ctP_by h 1000 [(1003, .fork [] [])] mixed Tryz.func29 rfl (by kernel_rfl) (by kernel_rfl)

/-- precentorref06.Many -/
noncomputable def P30 (a0 : Int) (a1 : Int) (Φ : List RV → Prop) : Prop :=
 Fk (decide (a0 < 0))
 (Φ [.pv (I 0)])
 (Fk (decide (a1 < 1))
 (Φ [.pv (I 0)])
 (Nz a1 (
 Jn (fun v1 : Int × Unit =>
 Φ [.pv (I v1.1)]) (fun j2 =>
 Nz a1 (
 Fk (decide (0 < (Int.tmod a0 a1)))
 (j2 (w64 ((w64 (Int.tdiv a0 a1)) + 1), ()))
 (Fk (a0 == 0)
 (j2 (w64 ((w64 (Int.tdiv a0 a1)) + 1), ()))
 (j2 (w64 (Int.tdiv a0 a1), ()))))))))
theorem t30 (a0 : Int) (a1 : Int) {Φ : List RV → Prop} (h : P30 a0 a1 Φ) : CtP Tryz.prog 30 [I a0, I a1] Φ :=
  ctP_by h 1000 [(1002, .fork [(1005, .off)] []), (1005, .fork [] []), (3002, .div), (4002, .div), (4004, .fork [(4007, .off)] []), (4007, .fork [] []), (6998, .join [.c 5 (.int .i64)])] mixed Tryz.func30 rfl (by kernel_rfl) (by kernel_rfl)

/-- precentorref11.May -/
noncomputable def P31 (a0 : Int) (a1 : Int) (a2 : Int) (Φ : List RV → Prop) : Prop :=
 Fk (decide (1 ≤ a0))
 (Fk (decide (a0 ≤ a1))
 (Fk (decide (a1 ≤ 1048576))
 (Fk (decide (1 ≤ a2))
 (Φ [.pv (B (decide (a2 ≤ 1048576)))])
 (Φ [.pv (B false)]))
 (Φ [.pv (B false)]))
 (Φ [.pv (B false)]))
 (Φ [.pv (B false)])
theorem t31 (a0 : Int) (a1 : Int) (a2 : Int) {Φ : List RV → Prop} (h : P31 a0 a1 a2 Φ) : CtP Tryz.prog 31 [I a0, I a1, I a2] Φ :=
  ctP_by h 1000 [(1002, .fork [] [(1007, .off), (1011, .off), (1015, .off)]), (1007, .fork [] [(1011, .off), (1015, .off)]), (1011, .fork [] [(1015, .off)]), (1015, .fork [] [])] mixed Tryz.func31 rfl (by kernel_rfl) (by kernel_rfl)

/-- precentorref21.Fits -/
noncomputable def P8 (a0 : Conf) (Φ : List RV → Prop) : Prop :=
 ∃ x1, Cl 29 [I a0.n, I 2, I 64] [.pv (B x1)] ∧
 Fk (!x1)
 (Φ [.pv (B false)])
 (∃ x2, Cl 29 [I a0.mtu, I 1, I 1024] [.pv (B x2)] ∧
 Fk (!x2)
 (Φ [.pv (B false)])
 (∃ x3, Cl 29 [I a0.buf, I 8, I 64] [.pv (B x3)] ∧
 Fk (!x3)
 (Φ [.pv (B false)])
 (Fk (decide (a0.msg < 0))
 (Φ [.pv (B false)])
 (∃ x4, Cl 29 [I a0.quota, I 1, I 64] [.pv (B x4)] ∧
 Fk (!x4)
 (Φ [.pv (B false)])
 (∃ x5, Cl 29 [I a0.queue, I 1, I 64] [.pv (B x5)] ∧
 Fk (!x5)
 (Φ [.pv (B false)])
 (∃ x6, Cl 29 [I a0.wait, I 1, I 1000] [.pv (B x6)] ∧
 Fk (!x6)
 (Φ [.pv (B false)])
 (∃ x7, Cl 29 [I a0.every, I 1, I 1000] [.pv (B x7)] ∧
 Fk (!x7)
 (Φ [.pv (B false)])
 (∃ x8, Cl 29 [I a0.window, I 1, I 1000] [.pv (B x8)] ∧
 Fk (!x8)
 (Φ [.pv (B false)])
 (∃ x9, Cl 29 [I a0.hyst, I 1, I 1000] [.pv (B x9)] ∧
 Fk (!x9)
 (Φ [.pv (B false)])
 (∃ x10, Cl 29 [I a0.first, I 0, I 1] [.pv (B x10)] ∧
 Fk (!x10)
 (Φ [.pv (B false)])
 (∃ x11, Cl 30 [I a0.msg, I a0.mtu] [.pv (I x11)] ∧
 ∃ x12, Cl 31 [I a0.least, I a0.rate, I a0.burst] [.pv (B x12)] ∧
 Fk x12
 (Fk (decide (x11 ≤ 32))
 (Fk (decide (x11 ≤ (w64 (a0.buf - 6))))
 (Fk (decide (x11 ≤ a0.burst))
 (Fk (decide (0 ≤ a0.low))
 (Φ [.pv (B (decide (a0.low < a0.high)))])
 (Φ [.pv (B false)]))
 (Φ [.pv (B false)]))
 (Φ [.pv (B false)]))
 (Φ [.pv (B false)]))
 (Φ [.pv (B false)]))))))))))))
theorem t8 (a0 : Conf) {Φ : List RV → Prop} (h : P8 a0 Φ) : CtP Tryz.prog 8 [eConf a0] Φ :=
  ctP_by h 1000 [(1002, .call [.pv .bool]), (1004, .fork [(1016, .off), (1021, .off), (1027, .off), (1032, .off), (1010, .off)] []), (1007, .call [.pv .bool]), (1010, .fork [(1021, .off), (1027, .off), (1032, .off), (1016, .off)] []), (1013, .call [.pv .bool]), (1016, .fork [(1027, .off), (1032, .off), (1021, .off)] []), (1021, .fork [(1032, .off), (1027, .off)] []), (1024, .call [.pv .bool]), (1027, .fork [(1032, .off)] []), (1030, .call [.pv .bool]), (1032, .fork [] []), (3002, .call [.pv .bool]), (3004, .fork [(3016, .off), (3022, .off), (3027, .off), (3010, .off)] []), (3007, .call [.pv .bool]), (3010, .fork [(3022, .off), (3027, .off), (3016, .off)] []), (3013, .call [.pv .bool]), (3016, .fork [(3027, .off), (3022, .off)] []), (3019, .call [.pv .bool]), (3022, .fork [(3027, .off)] []), (3025, .call [.pv .bool]), (3027, .fork [] []), (5004, .call [.pv (.int .i64)]), (6006, .call [.pv .bool]), (7001, .fork [] [(7005, .off), (7012, .off), (7018, .off), (7023, .off)]), (7005, .fork [] [(7012, .off), (7018, .off), (7023, .off)]), (7012, .fork [] [(7018, .off), (7023, .off)]), (7018, .fork [] [(7023, .off)]), (7023, .fork [] [])] mixed Tryz.func8 rfl (by kernel_rfl) (by kernel_rfl)

/-- precentorref08.New -/
noncomputable def P61  (Φ : List RV → Prop) : Prop :=
 Φ [.pv (.agg [I 1, .sl true []])]
theorem t61  {Φ : List RV → Prop} (h : P61  Φ) : CtP Tryz.prog 61 [] Φ :=
  ctP_by h 1000 [] mixed Tryz.func61 rfl (by kernel_rfl) (by kernel_rfl)

/-- precentorref09.New -/
noncomputable def P62  (Φ : List RV → Prop) : Prop :=
 Φ [.pv (.agg [I 1, .sl true []])]
theorem t62  {Φ : List RV → Prop} (h : P62  Φ) : CtP Tryz.prog 62 [] Φ :=
  ctP_by h 1000 [] mixed Tryz.func62 rfl (by kernel_rfl) (by kernel_rfl)

/-- precentorref20.New -/
noncomputable def P24 (a0 : Int) (a1 : Int) (Φ : List RV → Prop) : Prop :=
 ∃ x1, Cl 61 [] [.pv (eKeep x1)] ∧
 SmA (.pv (I a1)) ∧ SmA (.bp 65568 0) ∧ SmA (.bp 131112 0) ∧ SmA (.pv (I 0)) ∧ SmA (.pv (I 0)) ∧ SmA (.pv (I 0)) ∧ SmA (.pv (.sl true [])) ∧ SmA (.pv (.sl true [])) ∧ SmA (.pv (.sl true [])) ∧ SmA (.pv (.sl true [])) ∧ SmA (.pv (.sl true [])) ∧ SmA (.pv (.sl true [])) ∧ SmA (.pv (I 0)) ∧ SmA (.pv (I a0)) ∧ SmA (.pv (I 0)) ∧ SmA (.pv (.sl true [])) ∧ SmA (.pv (I 0)) ∧ Lo (fun (L3 : Int × Unit × (Int × (List PV) × (List PV) × (List PV) × (List PV) × (List PV) × Unit) × Unit → Prop) (v2 : Int × Unit × (Int × (List PV) × (List PV) × (List PV) × (List PV) × (List PV) × Unit) × Unit) =>
 Fk (decide (v2.1 < a1))
 (∃ x4, Cl 62 [] [.pv (eWin x4)] ∧
 Sz v2.2.2.1.2.2.1.length 1 32 (
 Sz v2.2.2.1.2.2.2.1.length 1 8 (
 Sz v2.2.2.1.2.2.2.2.1.length 1 8 (
 Mk 8 a1 a1 (
 Sz v2.2.2.1.2.2.2.2.2.1.length 1 24 (
 SmA (.pv (I a1)) ∧ SmA (.bp 65568 0) ∧ SmA (.bp 131112 0) ∧ SmA (.pv (I 0)) ∧ SmA (.pv (I 0)) ∧ SmA (.pv (I 0)) ∧ SmA (.pv (.sl true [])) ∧ SmA (.pv (.sl true [])) ∧ SmA (.pv (.sl true [])) ∧ SmA (.pv (.sl true [])) ∧ SmA (.pv (.sl true [])) ∧ SmA (.pv (.sl true [])) ∧ SmA (.pv (I 0)) ∧ SmA (.pv (I a0)) ∧ SmA (.pv (I 0)) ∧ SmA (.pv (.sl true [])) ∧ SmA (.pv (I 0)) ∧ L3 (w64 (v2.1 + 1), (), (v2.2.2.1.1, v2.2.2.1.2.1, v2.2.2.1.2.2.1 ++ [eWin x4], v2.2.2.1.2.2.2.1 ++ [I 0], v2.2.2.1.2.2.2.2.1 ++ [.agg [I 0]], v2.2.2.1.2.2.2.2.2.1 ++ [.sl false (List.replicate a1.toNat (I 0))], ()), ())))))))
 (Φ [.pv (.agg [I a0, I 0, I v2.2.2.1.1, .sl false v2.2.2.1.2.1, .sl false v2.2.2.1.2.2.1, .sl false v2.2.2.1.2.2.2.1, .sl false v2.2.2.1.2.2.2.2.1, .sl false v2.2.2.1.2.2.2.2.2.1, .sl true [], I 0])])) (0, (), (x1.next, List.map eItem x1.l, [], [], [], [], ()), ())
theorem t24 (a0 : Int) (a1 : Int) {Φ : List RV → Prop} (h : P24 a0 a1 Φ) : CtP Tryz.prog 24 [I a0, I a1] Φ :=
  ctP_by h 1000 [(1001, .call [.pv (.ty Keep eKeep)]), (3002, .fork [] []), (3999, .loop [.k 1 (.pv (I a1)), .k 4 (.bp 65568 0), .k 5 (.bp 131112 0), .c 6 (.int .i64), .box 65568 true [.k (.pv (I 0)), .k (.pv (I 0)), .k (.pv (I 0)), .k (.pv (.sl true [])), .k (.pv (.sl true [])), .k (.pv (.sl true [])), .k (.pv (.sl true [])), .k (.pv (.sl true [])), .k (.pv (.sl true [])), .k (.pv (I 0))], .box 131112 true [.k (.pv (I a0)), .k (.pv (I 0)), .h (.int .i64), .h .sl, .r 262147 109 2, .r 262155 3 1, .r 262163 114 1, .r 262171 29 1, .k (.pv (.sl true [])), .k (.pv (I 0))]]), (5002, .call [.pv (.ty Win eWin)]), (5004, .app false false), (6003, .app false false), (7004, .app false false), (8003, .mk), (8005, .app false false)] mixed Tryz.func24 rfl (by kernel_rfl) (by kernel_rfl)

/-- precentorref11.Start -/
noncomputable def P25 (a0 : Int) (a1 : Int) (Φ : List RV → Prop) : Prop :=
 Φ [.pv (.agg [I a0, I a1])]
theorem t25 (a0 : Int) (a1 : Int) {Φ : List RV → Prop} (h : P25 a0 a1 Φ) : CtP Tryz.prog 25 [I a0, I a1] Φ :=
  ctP_by h 1000 [] mixed Tryz.func25 rfl (by kernel_rfl) (by kernel_rfl)

/-- precentorref19.New -/
noncomputable def P26 (a0 : Int) (Φ : List RV → Prop) : Prop :=
 Mk 1 a0 a0 (
 Mk 8 a0 a0 (
 Φ [.pv (.agg [B false, I 0, .sl false (List.replicate a0.toNat (B false)), .sl false (List.replicate a0.toNat (I 0)), B false, .sl true []])]))
theorem t26 (a0 : Int) {Φ : List RV → Prop} (h : P26 a0 Φ) : CtP Tryz.prog 26 [I a0] Φ :=
  ctP_by h 1000 [(1001, .mk), (1003, .mk)] mixed Tryz.func26 rfl (by kernel_rfl) (by kernel_rfl)

/-- precentorref21.New -/
noncomputable def P6 (a0 : Conf) (a1 : Int) (Φ : List RV → Prop) : Prop :=
 ∃ x1, Cl 8 [eConf a0] [.pv (B x1)] ∧
 Fk (!x1)
 (Φ [.pv (.agg [I 0, I 0, I 0, I 0, I 0, I 0, I 0, I 0, I 0, I 0, I 0, I 0, I 0, I 0, I 0, B false, I 0, B false, I 0, I 0, I 0, .sl true [], .sl true [], .sl true [], .sl true [], .sl true [], .sl true [], I 0, .sl true [], I 0, I 0, I 0, I 0, .sl true [], I 0, I 0, B false, I 0, .sl true [], .sl true [], B false, .sl true [], I 0, I 0, I 0, I 0, I 0, B false, .sl true [], I 0, I 0]), .pv (I 1)])
 (Fk (decide (a1 < 0))
 (Φ [.pv (.agg [I 0, I 0, I 0, I 0, I 0, I 0, I 0, I 0, I 0, I 0, I 0, I 0, I 0, I 0, I 0, B false, I 0, B false, I 0, I 0, I 0, .sl true [], .sl true [], .sl true [], .sl true [], .sl true [], .sl true [], I 0, .sl true [], I 0, I 0, I 0, I 0, .sl true [], I 0, I 0, B false, I 0, .sl true [], .sl true [], B false, .sl true [], I 0, I 0, I 0, I 0, I 0, B false, .sl true [], I 0, I 0]), .pv (I 1)])
 (Fk (decide (a0.n ≤ a1))
 (Φ [.pv (.agg [I 0, I 0, I 0, I 0, I 0, I 0, I 0, I 0, I 0, I 0, I 0, I 0, I 0, I 0, I 0, B false, I 0, B false, I 0, I 0, I 0, .sl true [], .sl true [], .sl true [], .sl true [], .sl true [], .sl true [], I 0, .sl true [], I 0, I 0, I 0, I 0, .sl true [], I 0, I 0, B false, I 0, .sl true [], .sl true [], B false, .sl true [], I 0, I 0, I 0, I 0, I 0, B false, .sl true [], I 0, I 0]), .pv (I 1)])
 (∃ x2, Cl 24 [I a1, I a0.n] [.pv (eRel x2)] ∧
 ∃ x3, Cl 25 [I a0.rate, I a0.burst] [.pv (eRate x3)] ∧
 Mk 72 a0.n a0.n (
 ∃ x4, Cl 26 [I a0.n] [.pv (eBarrier x4)] ∧
 Φ [.pv (.agg [I a0.n, I a0.mtu, I a0.msg, I a0.buf, I a0.quota, I a0.queue, I a0.wait, I a0.every, I a0.least, I a0.rate, I a0.burst, I a0.high, I a0.low, I a0.window, I a0.hyst, B a0.byLoad, I a0.first, B false, I x2.me, I x2.now, I x2.keep.next, .sl false (List.map eItem x2.keep.l), .sl false (List.map eWin x2.win), .sl false (List.map I x2.top), .sl false (List.map eAsk x2.ask), .sl false (List.map lI x2.have_), .sl false (List.map I x2.lost), I x2.naks, .sl true [], I x3.now, I x3.left, I 0, I a0.first, .sl false (List.replicate a0.n.toNat (.agg [.sl true [], I 0, I 0, I 0, .sl true []])), I 0, I 0, B x4.on, I x4.next, .sl false (List.map B x4.acked), .sl false (List.map I x4.count), B x4.done, .sl false (List.map I x4.l), I 0, I 0, I 0, I 0, I 0, B false, .sl true [], I 0, I 0]), .pv (I 0)]))))
theorem t6 (a0 : Conf) (a1 : Int) {Φ : List RV → Prop} (h : P6 a0 a1 Φ) : CtP Tryz.prog 6 [eConf a0, I a1] Φ :=
  ctP_by h 1000 [(1001, .call [.pv .bool]), (2002, .fork [(2011, .off), (2006, .off)] []), (2006, .fork [(2011, .off)] []), (2011, .fork [] []), (4004, .call [.pv (.ty Rel eRel)]), (4009, .call [.pv (.ty Rate eRate)]), (4014, .mk), (4017, .call [.pv (.ty Barrier eBarrier)])] mixed Tryz.func6 rfl (by kernel_rfl) (by kernel_rfl)

/-- precentorref02.Same -/
noncomputable def P18 (a0 : List PV) (a1 : List PV) (Φ : List RV → Prop) : Prop :=
 Ln a0 (Ln a1 (Fk ((a0.length : Int) != (a1.length : Int))
 (Φ [.pv (B false)])
 (SmA (.pv (.sl false a0)) ∧ SmA (.pv (.sl false a1)) ∧ Lo (fun (L2 : Int × Unit → Prop) (v1 : Int × Unit) =>
 Fk (decide (v1.1 < (a0.length : Int)))
 (Ix I a0 v1.1 fun x3 =>
 Ix I a1 v1.1 fun x4 =>
 Fk (x3 != x4)
 (Φ [.pv (B false)])
 (SmA (.pv (.sl false a0)) ∧ SmA (.pv (.sl false a1)) ∧ L2 (w64 (v1.1 + 1), ())))
 (Φ [.pv (B true)])) (0, ()))))
theorem t18 (a0 : List PV) (a1 : List PV) {Φ : List RV → Prop} (h : P18 a0 a1 Φ) : CtP Tryz.prog 18 [.sl false a0, .sl false a1] Φ :=
  ctP_by h 1000 [(1004, .fork [] []), (1997, .lens [0, 1]), (4003, .fork [] []), (4999, .loop [.k 0 (.pv (.sl false a0)), .k 1 (.pv (.sl false a1)), .c 5 (.int .i64)]), (6002, .ix Int I), (6006, .ix Int I), (6008, .fork [] [])] mixed Tryz.func18 rfl (by kernel_rfl) (by kernel_rfl)

/-- precentorref03.Same -/
noncomputable def P169 (a0 : Item) (a1 : Item) (Φ : List RV → Prop) : Prop :=
 ∃ x1, Cl 18 [.sl false (List.map I a0.l), .sl false (List.map I a1.l)] [.pv (B x1)] ∧
 Fk x1
 (Fk (a0.kind == a1.kind)
 (Fk (a0.seq == a1.seq)
 (Fk (a0.epoch == a1.epoch)
 (Fk (a0.index == a1.index)
 (Fk (a0.total == a1.total)
 (Fk (a0.count == a1.count)
 (By (List.map U8 a0.body) (fun x2 =>
 By (List.map U8 a1.body) (fun x3 =>
 Φ [.pv (B ((⟨x2.toArray⟩ : ByteArray).toList == (⟨x3.toArray⟩ : ByteArray).toList))])))
 (Φ [.pv (B false)]))
 (Φ [.pv (B false)]))
 (Φ [.pv (B false)]))
 (Φ [.pv (B false)]))
 (Φ [.pv (B false)]))
 (Φ [.pv (B false)]))
 (Φ [.pv (B false)])
theorem t169 (a0 : Item) (a1 : Item) {Φ : List RV → Prop} (h : P169 a0 a1 Φ) : CtP Tryz.prog 169 [eItem a0, eItem a1] Φ :=
  ctP_by h 1000 [(1004, .call [.pv .bool]), (2001, .fork [] [(2008, .off), (2015, .off), (2022, .off), (2029, .off), (2036, .off), (2043, .off)]), (2008, .fork [] [(2015, .off), (2022, .off), (2029, .off), (2036, .off), (2043, .off)]), (2015, .fork [] [(2022, .off), (2029, .off), (2036, .off), (2043, .off)]), (2022, .fork [] [(2029, .off), (2036, .off), (2043, .off)]), (2029, .fork [] [(2036, .off), (2043, .off)]), (2036, .fork [] [(2043, .off)]), (2043, .fork [] []), (2046, .b2s), (2049, .b2s)] mixed Tryz.func169 rfl (by kernel_rfl) (by kernel_rfl)

/-- precentorref08.Items -/
noncomputable def P117 (a0 : List PV) (a1 : List PV) (Φ : List RV → Prop) : Prop :=
 Ln a0 (Ln a1 (Fk ((a0.length : Int) != (a1.length : Int))
 (Φ [.pv (B false)])
 (SmA (.pv (.sl false a0)) ∧ SmA (.pv (.sl false a1)) ∧ Lo (fun (L2 : Int × Unit → Prop) (v1 : Int × Unit) =>
 Fk (decide (v1.1 < (a0.length : Int)))
 (Ix eItem a0 v1.1 fun x3 =>
 Ix eItem a1 v1.1 fun x4 =>
 ∃ x5, Cl 169 [eItem x3, eItem x4] [.pv (B x5)] ∧
 Fk (!x5)
 (Φ [.pv (B false)])
 (SmA (.pv (.sl false a0)) ∧ SmA (.pv (.sl false a1)) ∧ L2 (w64 (v1.1 + 1), ())))
 (Φ [.pv (B true)])) (0, ()))))
theorem t117 (a0 : List PV) (a1 : List PV) {Φ : List RV → Prop} (h : P117 a0 a1 Φ) : CtP Tryz.prog 117 [.sl false a0, .sl false a1] Φ :=
  ctP_by h 1000 [(1004, .fork [] []), (1997, .lens [0, 1]), (4003, .fork [] []), (4999, .loop [.k 0 (.pv (.sl false a0)), .k 1 (.pv (.sl false a1)), .c 5 (.int .i64)]), (6002, .ix Item eItem), (6006, .ix Item eItem), (6008, .call [.pv .bool]), (7001, .fork [] [])] mixed Tryz.func117 rfl (by kernel_rfl) (by kernel_rfl)

/-- precentorref08.Same -/
noncomputable def P63 (a0 : Keep) (a1 : Keep) (Φ : List RV → Prop) : Prop :=
 ∃ x1, Cl 117 [.sl false (List.map eItem a0.l), .sl false (List.map eItem a1.l)] [.pv (B x1)] ∧
 Fk x1
 (Φ [.pv (B (a0.next == a1.next))])
 (Φ [.pv (B false)])
theorem t63 (a0 : Keep) (a1 : Keep) {Φ : List RV → Prop} (h : P63 a0 a1 Φ) : CtP Tryz.prog 63 [eKeep a0, eKeep a1] Φ :=
  ctP_by h 1000 [(1004, .call [.pv .bool]), (2001, .fork [] [])] mixed Tryz.func63 rfl (by kernel_rfl) (by kernel_rfl)

/-- precentorref07.Rows -/
noncomputable def P64 (a0 : List PV) (a1 : List PV) (Φ : List RV → Prop) : Prop :=
 Ln a0 (Ln a1 (Fk ((a0.length : Int) != (a1.length : Int))
 (Φ [.pv (B false)])
 (SmA (.pv (.sl false a0)) ∧ SmA (.pv (.sl false a1)) ∧ Lo (fun (L2 : Int × Unit → Prop) (v1 : Int × Unit) =>
 Fk (decide (v1.1 < (a0.length : Int)))
 (Ix lI a0 v1.1 fun x3 =>
 Ix lI a1 v1.1 fun x4 =>
 ∃ x5, Cl 18 [.sl false (List.map I x3), .sl false (List.map I x4)] [.pv (B x5)] ∧
 Fk (!x5)
 (Φ [.pv (B false)])
 (SmA (.pv (.sl false a0)) ∧ SmA (.pv (.sl false a1)) ∧ L2 (w64 (v1.1 + 1), ())))
 (Φ [.pv (B true)])) (0, ()))))
theorem t64 (a0 : List PV) (a1 : List PV) {Φ : List RV → Prop} (h : P64 a0 a1 Φ) : CtP Tryz.prog 64 [.sl false a0, .sl false a1] Φ :=
  ctP_by h 1000 [(1004, .fork [] []), (1997, .lens [0, 1]), (4003, .fork [] []), (4999, .loop [.k 0 (.pv (.sl false a0)), .k 1 (.pv (.sl false a1)), .c 5 (.int .i64)]), (6002, .ix (List Int) lI), (6006, .ix (List Int) lI), (6008, .call [.pv .bool]), (7001, .fork [] [])] mixed Tryz.func64 rfl (by kernel_rfl) (by kernel_rfl)

/-- precentorref09.Same -/
noncomputable def P65 (a0 : Win) (a1 : Win) (Φ : List RV → Prop) : Prop :=
 ∃ x1, Cl 117 [.sl false (List.map eItem a0.l), .sl false (List.map eItem a1.l)] [.pv (B x1)] ∧
 Fk x1
 (Φ [.pv (B (a0.next == a1.next))])
 (Φ [.pv (B false)])
theorem t65 (a0 : Win) (a1 : Win) {Φ : List RV → Prop} (h : P65 a0 a1 Φ) : CtP Tryz.prog 65 [eWin a0, eWin a1] Φ :=
  ctP_by h 1000 [(1004, .call [.pv .bool]), (2001, .fork [] [])] mixed Tryz.func65 rfl (by kernel_rfl) (by kernel_rfl)

/-- precentorref20.Same -/
noncomputable def P32 (a0 : Rel) (a1 : Rel) (Φ : List RV → Prop) : Prop :=
 ∃ x1, Cl 63 [eKeep a0.keep, eKeep a1.keep] [.pv (B x1)] ∧
 ∃ x2, Cl 18 [.sl false (List.map I a0.top), .sl false (List.map I a1.top)] [.pv (B x2)] ∧
 ∃ x3, Cl 18 [.sl false (List.map I a0.lost), .sl false (List.map I a1.lost)] [.pv (B x3)] ∧
 ∃ x4, Cl 64 [.sl false (List.map lI a0.have_), .sl false (List.map lI a1.have_)] [.pv (B x4)] ∧
 Ln (List.map eItem a0.keep.l) (Ln (List.map eWin a0.win) (Ln (List.map I a0.top) (Ln (List.map eAsk a0.ask) (Ln (List.map lI a0.have_) (Ln (List.map I a0.lost) (Ln (List.map eItem a1.keep.l) (Ln (List.map eWin a1.win) (Ln (List.map I a1.top) (Ln (List.map eAsk a1.ask) (Ln (List.map lI a1.have_) (Ln (List.map I a1.lost) (Fk (!x1)
 (Φ [.pv (B false)])
 (Fk (!x2)
 (Φ [.pv (B false)])
 (Fk (!x3)
 (Φ [.pv (B false)])
 (Fk (!x4)
 (Φ [.pv (B false)])
 (Fk (a0.me != a1.me)
 (Φ [.pv (B false)])
 (Fk (a0.now != a1.now)
 (Φ [.pv (B false)])
 (Fk (a0.naks != a1.naks)
 (Φ [.pv (B false)])
 (Fk (((List.map eWin a0.win).length : Int) != ((List.map eWin a1.win).length : Int))
 (Φ [.pv (B false)])
 (Fk (((List.map eAsk a0.ask).length : Int) != ((List.map eAsk a1.ask).length : Int))
 (Φ [.pv (B false)])
 (SmA (.bp 65552 0) ∧ SmA (.bp 65560 0) ∧ SmA (.pv (I a0.me)) ∧ SmA (.pv (I a0.now)) ∧ SmA (.pv (I a0.keep.next)) ∧ SmA (.pv (.sl false (List.map eItem a0.keep.l))) ∧ SmA (.pv (.sl false (List.map eWin a0.win))) ∧ SmA (.pv (.sl false (List.map I a0.top))) ∧ SmA (.pv (.sl false (List.map eAsk a0.ask))) ∧ SmA (.pv (.sl false (List.map lI a0.have_))) ∧ SmA (.pv (.sl false (List.map I a0.lost))) ∧ SmA (.pv (I a0.naks)) ∧ SmA (.pv (I a1.me)) ∧ SmA (.pv (I a1.now)) ∧ SmA (.pv (I a1.keep.next)) ∧ SmA (.pv (.sl false (List.map eItem a1.keep.l))) ∧ SmA (.pv (.sl false (List.map eWin a1.win))) ∧ SmA (.pv (.sl false (List.map I a1.top))) ∧ SmA (.pv (.sl false (List.map eAsk a1.ask))) ∧ SmA (.pv (.sl false (List.map lI a1.have_))) ∧ SmA (.pv (.sl false (List.map I a1.lost))) ∧ SmA (.pv (I a1.naks)) ∧ Lo (fun (L6 : Int × Unit × Unit × Unit → Prop) (v5 : Int × Unit × Unit × Unit) =>
 Fk (decide (v5.1 < ((List.map eWin a0.win).length : Int)))
 (Ix eWin (List.map eWin a0.win) v5.1 fun x7 =>
 Ix eWin (List.map eWin a1.win) v5.1 fun x8 =>
 ∃ x9, Cl 65 [eWin x7, eWin x8] [.pv (B x9)] ∧
 Fk (!x9)
 (Φ [.pv (B false)])
 (SmA (.bp 65552 0) ∧ SmA (.bp 65560 0) ∧ SmA (.pv (I a0.me)) ∧ SmA (.pv (I a0.now)) ∧ SmA (.pv (I a0.keep.next)) ∧ SmA (.pv (.sl false (List.map eItem a0.keep.l))) ∧ SmA (.pv (.sl false (List.map eWin a0.win))) ∧ SmA (.pv (.sl false (List.map I a0.top))) ∧ SmA (.pv (.sl false (List.map eAsk a0.ask))) ∧ SmA (.pv (.sl false (List.map lI a0.have_))) ∧ SmA (.pv (.sl false (List.map I a0.lost))) ∧ SmA (.pv (I a0.naks)) ∧ SmA (.pv (I a1.me)) ∧ SmA (.pv (I a1.now)) ∧ SmA (.pv (I a1.keep.next)) ∧ SmA (.pv (.sl false (List.map eItem a1.keep.l))) ∧ SmA (.pv (.sl false (List.map eWin a1.win))) ∧ SmA (.pv (.sl false (List.map I a1.top))) ∧ SmA (.pv (.sl false (List.map eAsk a1.ask))) ∧ SmA (.pv (.sl false (List.map lI a1.have_))) ∧ SmA (.pv (.sl false (List.map I a1.lost))) ∧ SmA (.pv (I a1.naks)) ∧ L6 (w64 (v5.1 + 1), (), (), ())))
 (SmA (.bp 65552 0) ∧ SmA (.bp 65560 0) ∧ SmA (.pv (I a0.me)) ∧ SmA (.pv (I a0.now)) ∧ SmA (.pv (I a0.keep.next)) ∧ SmA (.pv (.sl false (List.map eItem a0.keep.l))) ∧ SmA (.pv (.sl false (List.map eWin a0.win))) ∧ SmA (.pv (.sl false (List.map I a0.top))) ∧ SmA (.pv (.sl false (List.map eAsk a0.ask))) ∧ SmA (.pv (.sl false (List.map lI a0.have_))) ∧ SmA (.pv (.sl false (List.map I a0.lost))) ∧ SmA (.pv (I a0.naks)) ∧ SmA (.pv (I a1.me)) ∧ SmA (.pv (I a1.now)) ∧ SmA (.pv (I a1.keep.next)) ∧ SmA (.pv (.sl false (List.map eItem a1.keep.l))) ∧ SmA (.pv (.sl false (List.map eWin a1.win))) ∧ SmA (.pv (.sl false (List.map I a1.top))) ∧ SmA (.pv (.sl false (List.map eAsk a1.ask))) ∧ SmA (.pv (.sl false (List.map lI a1.have_))) ∧ SmA (.pv (.sl false (List.map I a1.lost))) ∧ SmA (.pv (I a1.naks)) ∧ Lo (fun (L11 : Int × Unit × Unit × Unit → Prop) (v10 : Int × Unit × Unit × Unit) =>
 Fk (decide (v10.1 < ((List.map eAsk a0.ask).length : Int)))
 (Ix eAsk (List.map eAsk a0.ask) v10.1 fun x12 =>
 Ix eAsk (List.map eAsk a1.ask) v10.1 fun x13 =>
 Fk (x12.due != x13.due)
 (Φ [.pv (B false)])
 (SmA (.bp 65552 0) ∧ SmA (.bp 65560 0) ∧ SmA (.pv (I a0.me)) ∧ SmA (.pv (I a0.now)) ∧ SmA (.pv (I a0.keep.next)) ∧ SmA (.pv (.sl false (List.map eItem a0.keep.l))) ∧ SmA (.pv (.sl false (List.map eWin a0.win))) ∧ SmA (.pv (.sl false (List.map I a0.top))) ∧ SmA (.pv (.sl false (List.map eAsk a0.ask))) ∧ SmA (.pv (.sl false (List.map lI a0.have_))) ∧ SmA (.pv (.sl false (List.map I a0.lost))) ∧ SmA (.pv (I a0.naks)) ∧ SmA (.pv (I a1.me)) ∧ SmA (.pv (I a1.now)) ∧ SmA (.pv (I a1.keep.next)) ∧ SmA (.pv (.sl false (List.map eItem a1.keep.l))) ∧ SmA (.pv (.sl false (List.map eWin a1.win))) ∧ SmA (.pv (.sl false (List.map I a1.top))) ∧ SmA (.pv (.sl false (List.map eAsk a1.ask))) ∧ SmA (.pv (.sl false (List.map lI a1.have_))) ∧ SmA (.pv (.sl false (List.map I a1.lost))) ∧ SmA (.pv (I a1.naks)) ∧ L11 (w64 (v10.1 + 1), (), (), ())))
 (Φ [.pv (B true)])) (0, (), (), ()))) (0, (), (), ()))))))))))))))))))))))
theorem t32 (a0 : Rel) (a1 : Rel) {Φ : List RV → Prop} (h : P32 a0 a1 Φ) : CtP Tryz.prog 32 [eRel a0, eRel a1] Φ :=
  ctP_by h 1000 [(1004, .call [.pv .bool]), (2004, .call [.pv .bool]), (3004, .call [.pv .bool]), (4004, .call [.pv .bool]), (5002, .fork [(5010, .off), (5014, .off), (5021, .off), (5028, .off), (5035, .off), (5044, .off), (5052, .off), (5006, .off)] []), (5006, .fork [(5014, .off), (5021, .off), (5028, .off), (5035, .off), (5044, .off), (5052, .off), (5010, .off)] []), (5010, .fork [(5021, .off), (5028, .off), (5035, .off), (5044, .off), (5052, .off), (5014, .off)] []), (5014, .fork [(5028, .off), (5035, .off), (5044, .off), (5052, .off), (5021, .off)] []), (5021, .fork [(5035, .off), (5044, .off), (5052, .off), (5028, .off)] []), (5028, .fork [(5044, .off), (5052, .off), (5035, .off)] []), (5035, .fork [(5052, .off), (5044, .off)] []), (5044, .fork [(5052, .off)] []), (5052, .fork [] []), (5997, .lens [2, 3]), (8004, .fork [] []), (8999, .loop [.k 2 (.bp 65552 0), .k 3 (.bp 65560 0), .c 9 (.int .i64), .box 65552 true [.k (.pv (I a0.me)), .k (.pv (I a0.now)), .k (.pv (I a0.keep.next)), .k (.pv (.sl false (List.map eItem a0.keep.l))), .k (.pv (.sl false (List.map eWin a0.win))), .k (.pv (.sl false (List.map I a0.top))), .k (.pv (.sl false (List.map eAsk a0.ask))), .k (.pv (.sl false (List.map lI a0.have_))), .k (.pv (.sl false (List.map I a0.lost))), .k (.pv (I a0.naks))], .box 65560 true [.k (.pv (I a1.me)), .k (.pv (I a1.now)), .k (.pv (I a1.keep.next)), .k (.pv (.sl false (List.map eItem a1.keep.l))), .k (.pv (.sl false (List.map eWin a1.win))), .k (.pv (.sl false (List.map I a1.top))), .k (.pv (.sl false (List.map eAsk a1.ask))), .k (.pv (.sl false (List.map lI a1.have_))), .k (.pv (.sl false (List.map I a1.lost))), .k (.pv (I a1.naks))]]), (10003, .ix Win eWin), (10008, .ix Win eWin), (10010, .call [.pv .bool]), (11001, .fork [] []), (14004, .fork [] []), (14999, .loop [.k 2 (.bp 65552 0), .k 3 (.bp 65560 0), .c 11 (.int .i64), .box 65552 true [.k (.pv (I a0.me)), .k (.pv (I a0.now)), .k (.pv (I a0.keep.next)), .k (.pv (.sl false (List.map eItem a0.keep.l))), .k (.pv (.sl false (List.map eWin a0.win))), .k (.pv (.sl false (List.map I a0.top))), .k (.pv (.sl false (List.map eAsk a0.ask))), .k (.pv (.sl false (List.map lI a0.have_))), .k (.pv (.sl false (List.map I a0.lost))), .k (.pv (I a0.naks))], .box 65560 true [.k (.pv (I a1.me)), .k (.pv (I a1.now)), .k (.pv (I a1.keep.next)), .k (.pv (.sl false (List.map eItem a1.keep.l))), .k (.pv (.sl false (List.map eWin a1.win))), .k (.pv (.sl false (List.map I a1.top))), .k (.pv (.sl false (List.map eAsk a1.ask))), .k (.pv (.sl false (List.map lI a1.have_))), .k (.pv (.sl false (List.map I a1.lost))), .k (.pv (I a1.naks))]]), (16003, .ix Ask eAsk), (16009, .ix Ask eAsk), (16012, .fork [] [])] mixed Tryz.func32 rfl (by kernel_rfl) (by kernel_rfl)

/-- precentorref06.Pieces -/
noncomputable def P66 (a0 : List PV) (a1 : List PV) (Φ : List RV → Prop) : Prop :=
 Ln a0 (Ln a1 (Fk ((a0.length : Int) != (a1.length : Int))
 (Φ [.pv (B false)])
 (SmA (.pv (.sl false a0)) ∧ SmA (.pv (.sl false a1)) ∧ Lo (fun (L2 : Int × Unit → Prop) (v1 : Int × Unit) =>
 Fk (decide (v1.1 < (a0.length : Int)))
 (Ix lU8 a0 v1.1 fun x3 =>
 By (List.map U8 x3) (fun x4 =>
 Ix lU8 a1 v1.1 fun x5 =>
 By (List.map U8 x5) (fun x6 =>
 Fk (!((⟨x4.toArray⟩ : ByteArray).toList == (⟨x6.toArray⟩ : ByteArray).toList))
 (Φ [.pv (B false)])
 (SmA (.pv (.sl false a0)) ∧ SmA (.pv (.sl false a1)) ∧ L2 (w64 (v1.1 + 1), ())))))
 (Φ [.pv (B true)])) (0, ()))))
theorem t66 (a0 : List PV) (a1 : List PV) {Φ : List RV → Prop} (h : P66 a0 a1 Φ) : CtP Tryz.prog 66 [.sl false a0, .sl false a1] Φ :=
  ctP_by h 1000 [(1004, .fork [] []), (1997, .lens [0, 1]), (4003, .fork [] []), (4999, .loop [.k 0 (.pv (.sl false a0)), .k 1 (.pv (.sl false a1)), .c 5 (.int .i64)]), (6002, .ix (List UInt8) lU8), (6004, .b2s), (6007, .ix (List UInt8) lU8), (6009, .b2s), (6010, .fork [] [])] mixed Tryz.func66 rfl (by kernel_rfl) (by kernel_rfl)

/-- precentorref12.Same -/
noncomputable def P33 (a0 : List PV) (a1 : List PV) (Φ : List RV → Prop) : Prop :=
 ∃ x1, Cl 66 [.sl false a0, .sl false a1] [.pv (B x1)] ∧
 Φ [.pv (B x1)]
theorem t33 (a0 : List PV) (a1 : List PV) {Φ : List RV → Prop} (h : P33 a0 a1 Φ) : CtP Tryz.prog 33 [.sl false a0, .sl false a1] Φ :=
  ctP_by h 1000 [(1002, .call [.pv .bool])] mixed Tryz.func33 rfl (by kernel_rfl) (by kernel_rfl)

/-- precentorref15.Entries -/
noncomputable def P118 (a0 : List PV) (a1 : List PV) (Φ : List RV → Prop) : Prop :=
 Ln a0 (Ln a1 (Fk ((a0.length : Int) != (a1.length : Int))
 (Φ [.pv (B false)])
 (SmA (.pv (.sl false a0)) ∧ SmA (.pv (.sl false a1)) ∧ Lo (fun (L2 : Int × Unit → Prop) (v1 : Int × Unit) =>
 Fk (decide (v1.1 < (a0.length : Int)))
 (Ix eEntry a0 v1.1 fun x3 =>
 Ix eEntry a1 v1.1 fun x4 =>
 ∃ x5, Cl 18 [.sl false (List.map I x3.l), .sl false (List.map I x4.l)] [.pv (B x5)] ∧
 Fk (!x5)
 (Φ [.pv (B false)])
 (Ix eEntry a0 v1.1 fun x6 =>
 Ix eEntry a1 v1.1 fun x7 =>
 Fk (x6.kind != x7.kind)
 (Φ [.pv (B false)])
 (Ix eEntry a0 v1.1 fun x8 =>
 Ix eEntry a1 v1.1 fun x9 =>
 Fk (x8.seq != x9.seq)
 (Φ [.pv (B false)])
 (Ix eEntry a0 v1.1 fun x10 =>
 By (List.map U8 x10.b) (fun x11 =>
 Ix eEntry a1 v1.1 fun x12 =>
 By (List.map U8 x12.b) (fun x13 =>
 Fk (!((⟨x11.toArray⟩ : ByteArray).toList == (⟨x13.toArray⟩ : ByteArray).toList))
 (Φ [.pv (B false)])
 (Ix eEntry a0 v1.1 fun x14 =>
 Ix eEntry a1 v1.1 fun x15 =>
 Fk (x14.hand != x15.hand)
 (Φ [.pv (B false)])
 (SmA (.pv (.sl false a0)) ∧ SmA (.pv (.sl false a1)) ∧ L2 (w64 (v1.1 + 1), ())))))))))
 (Φ [.pv (B true)])) (0, ()))))
theorem t118 (a0 : List PV) (a1 : List PV) {Φ : List RV → Prop} (h : P118 a0 a1 Φ) : CtP Tryz.prog 118 [.sl false a0, .sl false a1] Φ :=
  ctP_by h 1000 [(1004, .fork [] []), (1997, .lens [0, 1]), (4003, .fork [] []), (4999, .loop [.k 0 (.pv (.sl false a0)), .k 1 (.pv (.sl false a1)), .c 5 (.int .i64)]), (6002, .ix Entry eEntry), (6007, .ix Entry eEntry), (6010, .call [.pv .bool]), (7002, .fork [(7028, .off), (7043, .off), (7055, .off), (7015, .off)] []), (7005, .ix Entry eEntry), (7010, .ix Entry eEntry), (7015, .fork [(7043, .off), (7055, .off), (7028, .off)] []), (7018, .ix Entry eEntry), (7023, .ix Entry eEntry), (7028, .fork [(7055, .off), (7043, .off)] []), (7031, .ix Entry eEntry), (7034, .b2s), (7037, .ix Entry eEntry), (7040, .b2s), (7043, .fork [(7055, .off)] []), (7046, .ix Entry eEntry), (7051, .ix Entry eEntry), (7055, .fork [] [])] mixed Tryz.func118 rfl (by kernel_rfl) (by kernel_rfl)

/-- precentorref06.Same -/
noncomputable def P119 (a0 : Part) (a1 : Part) (Φ : List RV → Prop) : Prop :=
 Fk (a0.seq == a1.seq)
 (Fk (a0.total == a1.total)
 (Fk (a0.got == a1.got)
 (By (List.map U8 a0.b) (fun x1 =>
 By (List.map U8 a1.b) (fun x2 =>
 Φ [.pv (B ((⟨x1.toArray⟩ : ByteArray).toList == (⟨x2.toArray⟩ : ByteArray).toList))])))
 (Φ [.pv (B false)]))
 (Φ [.pv (B false)]))
 (Φ [.pv (B false)])
theorem t119 (a0 : Part) (a1 : Part) {Φ : List RV → Prop} (h : P119 a0 a1 Φ) : CtP Tryz.prog 119 [ePart a0, ePart a1] Φ :=
  ctP_by h 1000 [(1005, .fork [] [(1012, .off), (1019, .off)]), (1012, .fork [] [(1019, .off)]), (1019, .fork [] []), (1022, .b2s), (1025, .b2s)] mixed Tryz.func119 rfl (by kernel_rfl) (by kernel_rfl)

/-- precentorref15.Same -/
noncomputable def P67 (a0 : Lane) (a1 : Lane) (Φ : List RV → Prop) : Prop :=
 ∃ x1, Cl 118 [.sl false (List.map eEntry a0.l), .sl false (List.map eEntry a1.l)] [.pv (B x1)] ∧
 ∃ x2, Cl 119 [ePart a0.part, ePart a1.part] [.pv (B x2)] ∧
 Fk x1
 (Φ [.pv (B x2)])
 (Φ [.pv (B false)])
theorem t67 (a0 : Lane) (a1 : Lane) {Φ : List RV → Prop} (h : P67 a0 a1 Φ) : CtP Tryz.prog 67 [eLane a0, eLane a1] Φ :=
  ctP_by h 1000 [(1004, .call [.pv .bool]), (2004, .call [.pv .bool]), (3001, .fork [] [])] mixed Tryz.func67 rfl (by kernel_rfl) (by kernel_rfl)

/-- precentorref15.SameAll -/
noncomputable def P34 (a0 : List PV) (a1 : List PV) (Φ : List RV → Prop) : Prop :=
 Ln a0 (Ln a1 (Fk ((a0.length : Int) != (a1.length : Int))
 (Φ [.pv (B false)])
 (SmA (.pv (.sl false a0)) ∧ SmA (.pv (.sl false a1)) ∧ Lo (fun (L2 : Int × Unit → Prop) (v1 : Int × Unit) =>
 Fk (decide (v1.1 < (a0.length : Int)))
 (Ix eLane a0 v1.1 fun x3 =>
 Ix eLane a1 v1.1 fun x4 =>
 ∃ x5, Cl 67 [eLane x3, eLane x4] [.pv (B x5)] ∧
 Fk (!x5)
 (Φ [.pv (B false)])
 (SmA (.pv (.sl false a0)) ∧ SmA (.pv (.sl false a1)) ∧ L2 (w64 (v1.1 + 1), ())))
 (Φ [.pv (B true)])) (0, ()))))
theorem t34 (a0 : List PV) (a1 : List PV) {Φ : List RV → Prop} (h : P34 a0 a1 Φ) : CtP Tryz.prog 34 [.sl false a0, .sl false a1] Φ :=
  ctP_by h 1000 [(1004, .fork [] []), (1997, .lens [0, 1]), (4003, .fork [] []), (4999, .loop [.k 0 (.pv (.sl false a0)), .k 1 (.pv (.sl false a1)), .c 5 (.int .i64)]), (6002, .ix Lane eLane), (6006, .ix Lane eLane), (6008, .call [.pv .bool]), (7001, .fork [] [])] mixed Tryz.func34 rfl (by kernel_rfl) (by kernel_rfl)

/-- precentorref19.yes -/
noncomputable def P68 (a0 : List PV) (a1 : List PV) (Φ : List RV → Prop) : Prop :=
 Ln a0 (Ln a1 (Fk ((a0.length : Int) != (a1.length : Int))
 (Φ [.pv (B false)])
 (SmA (.pv (.sl false a0)) ∧ SmA (.pv (.sl false a1)) ∧ Lo (fun (L2 : Int × Unit → Prop) (v1 : Int × Unit) =>
 Fk (decide (v1.1 < (a0.length : Int)))
 (Ix B a0 v1.1 fun x3 =>
 Ix B a1 v1.1 fun x4 =>
 Fk (x3 != x4)
 (Φ [.pv (B false)])
 (SmA (.pv (.sl false a0)) ∧ SmA (.pv (.sl false a1)) ∧ L2 (w64 (v1.1 + 1), ())))
 (Φ [.pv (B true)])) (0, ()))))
theorem t68 (a0 : List PV) (a1 : List PV) {Φ : List RV → Prop} (h : P68 a0 a1 Φ) : CtP Tryz.prog 68 [.sl false a0, .sl false a1] Φ :=
  ctP_by h 1000 [(1004, .fork [] []), (1997, .lens [0, 1]), (4003, .fork [] []), (4999, .loop [.k 0 (.pv (.sl false a0)), .k 1 (.pv (.sl false a1)), .c 5 (.int .i64)]), (6002, .ix Bool B), (6006, .ix Bool B), (6008, .fork [] [])] mixed Tryz.func68 rfl (by kernel_rfl) (by kernel_rfl)

/-- precentorref19.Same -/
noncomputable def P35 (a0 : Barrier) (a1 : Barrier) (Φ : List RV → Prop) : Prop :=
 ∃ x1, Cl 68 [.sl false (List.map B a0.acked), .sl false (List.map B a1.acked)] [.pv (B x1)] ∧
 ∃ x2, Cl 18 [.sl false (List.map I a0.count), .sl false (List.map I a1.count)] [.pv (B x2)] ∧
 ∃ x3, Cl 18 [.sl false (List.map I a0.l), .sl false (List.map I a1.l)] [.pv (B x3)] ∧
 Fk x1
 (Fk x2
 (Fk x3
 (Fk (a0.on == a1.on)
 (Fk (a0.next == a1.next)
 (Φ [.pv (B (a0.done == a1.done))])
 (Φ [.pv (B false)]))
 (Φ [.pv (B false)]))
 (Φ [.pv (B false)]))
 (Φ [.pv (B false)]))
 (Φ [.pv (B false)])
theorem t35 (a0 : Barrier) (a1 : Barrier) {Φ : List RV → Prop} (h : P35 a0 a1 Φ) : CtP Tryz.prog 35 [eBarrier a0, eBarrier a1] Φ :=
  ctP_by h 1000 [(1004, .call [.pv .bool]), (2004, .call [.pv .bool]), (3004, .call [.pv .bool]), (4001, .fork [] [(4004, .off), (4007, .off), (4014, .off), (4021, .off)]), (4004, .fork [] [(4007, .off), (4014, .off), (4021, .off)]), (4007, .fork [] [(4014, .off), (4021, .off)]), (4014, .fork [] [(4021, .off)]), (4021, .fork [] [])] mixed Tryz.func35 rfl (by kernel_rfl) (by kernel_rfl)

/-- precentorref16.Delivs -/
noncomputable def P36 (a0 : List PV) (a1 : List PV) (Φ : List RV → Prop) : Prop :=
 Ln a0 (Ln a1 (Fk ((a0.length : Int) != (a1.length : Int))
 (Φ [.pv (B false)])
 (SmA (.pv (.sl false a0)) ∧ SmA (.pv (.sl false a1)) ∧ Lo (fun (L2 : Int × Unit → Prop) (v1 : Int × Unit) =>
 Fk (decide (v1.1 < (a0.length : Int)))
 (Ix eDeliv a0 v1.1 fun x3 =>
 Ix eDeliv a1 v1.1 fun x4 =>
 Fk (x3.from_ != x4.from_)
 (Φ [.pv (B false)])
 (Ix eDeliv a0 v1.1 fun x5 =>
 By (List.map U8 x5.b) (fun x6 =>
 Ix eDeliv a1 v1.1 fun x7 =>
 By (List.map U8 x7.b) (fun x8 =>
 Fk (!((⟨x6.toArray⟩ : ByteArray).toList == (⟨x8.toArray⟩ : ByteArray).toList))
 (Φ [.pv (B false)])
 (SmA (.pv (.sl false a0)) ∧ SmA (.pv (.sl false a1)) ∧ L2 (w64 (v1.1 + 1), ()))))))
 (Φ [.pv (B true)])) (0, ()))))
theorem t36 (a0 : List PV) (a1 : List PV) {Φ : List RV → Prop} (h : P36 a0 a1 Φ) : CtP Tryz.prog 36 [.sl false a0, .sl false a1] Φ :=
  ctP_by h 1000 [(1004, .fork [] []), (1997, .lens [0, 1]), (4003, .fork [] []), (4999, .loop [.k 0 (.pv (.sl false a0)), .k 1 (.pv (.sl false a1)), .c 5 (.int .i64)]), (6002, .ix Deliv eDeliv), (6007, .ix Deliv eDeliv), (6011, .fork [(6025, .off)] []), (6014, .ix Deliv eDeliv), (6017, .b2s), (6020, .ix Deliv eDeliv), (6023, .b2s), (6025, .fork [] [])] mixed Tryz.func36 rfl (by kernel_rfl) (by kernel_rfl)

/-- precentorref21.Same -/
noncomputable def P9 (a0 : Memb) (a1 : Memb) (Φ : List RV → Prop) : Prop :=
 ∃ x1, Cl 32 [eRel a0.rel, eRel a1.rel] [.pv (B x1)] ∧
 ∃ x2, Cl 33 [.sl false (List.map lU8 a0.queue), .sl false (List.map lU8 a1.queue)] [.pv (B x2)] ∧
 ∃ x3, Cl 34 [.sl false (List.map eLane a0.lane), .sl false (List.map eLane a1.lane)] [.pv (B x3)] ∧
 ∃ x4, Cl 35 [eBarrier a0.barrier, eBarrier a1.barrier] [.pv (B x4)] ∧
 ∃ x5, Cl 36 [.sl false (List.map eDeliv a0.log), .sl false (List.map eDeliv a1.log)] [.pv (B x5)] ∧
 Fk (!x1)
 (Φ [.pv (B false)])
 (Fk (!x2)
 (Φ [.pv (B false)])
 (Fk (!x3)
 (Φ [.pv (B false)])
 (Fk (!x4)
 (Φ [.pv (B false)])
 (Fk (!x5)
 (Φ [.pv (B false)])
 (Fk (!(((a0.conf.n : Int) == a1.conf.n) && (((a0.conf.mtu : Int) == a1.conf.mtu) && (((a0.conf.msg : Int) == a1.conf.msg) && (((a0.conf.buf : Int) == a1.conf.buf) && (((a0.conf.quota : Int) == a1.conf.quota) && (((a0.conf.queue : Int) == a1.conf.queue) && (((a0.conf.wait : Int) == a1.conf.wait) && (((a0.conf.every : Int) == a1.conf.every) && (((a0.conf.least : Int) == a1.conf.least) && (((a0.conf.rate : Int) == a1.conf.rate) && (((a0.conf.burst : Int) == a1.conf.burst) && (((a0.conf.high : Int) == a1.conf.high) && (((a0.conf.low : Int) == a1.conf.low) && (((a0.conf.window : Int) == a1.conf.window) && (((a0.conf.hyst : Int) == a1.conf.hyst) && (((a0.conf.byLoad : Bool) == a1.conf.byLoad) && (((a0.conf.first : Int) == a1.conf.first) && true))))))))))))))))))
 (Φ [.pv (B false)])
 (Fk (a0.down != a1.down)
 (Φ [.pv (B false)])
 (Fk (!(((a0.rate.now : Int) == a1.rate.now) && (((a0.rate.left : Int) == a1.rate.left) && true)))
 (Φ [.pv (B false)])
 (Fk (!(((a0.meter.at_ : Int) == a1.meter.at_) && (((a0.meter.many : Int) == a1.meter.many) && (((a0.meter.bytes : Int) == a1.meter.bytes) && true))))
 (Φ [.pv (B false)])
 (Fk (!(((a0.want.hits : Int) == a1.want.hits) && true))
 (Φ [.pv (B false)])
 (Fk (a0.epoch == a1.epoch)
 (Fk (a0.engine == a1.engine)
 (Fk (((a0.turn.who : Int) == a1.turn.who) && (((a0.turn.used : Int) == a1.turn.used) && true))
 (Fk (a0.sent == a1.sent)
 (Fk (a0.switch == a1.switch)
 (Fk (a0.polled == a1.polled)
 (Φ [.pv (B (a0.drops == a1.drops))])
 (Φ [.pv (B false)]))
 (Φ [.pv (B false)]))
 (Φ [.pv (B false)]))
 (Φ [.pv (B false)]))
 (Φ [.pv (B false)]))
 (Φ [.pv (B false)])))))))))))
theorem t9 (a0 : Memb) (a1 : Memb) {Φ : List RV → Prop} (h : P9 a0 a1 Φ) : CtP Tryz.prog 9 [eMemb a0, eMemb a1] Φ :=
  ctP_by h 1000 [(1004, .call [.pv .bool]), (2004, .call [.pv .bool]), (3004, .call [.pv .bool]), (4004, .call [.pv .bool]), (5004, .call [.pv .bool]), (6002, .fork [(6010, .off), (6014, .off), (6018, .off), (6025, .off), (6032, .off), (6039, .off), (6046, .off), (6052, .off), (6006, .off)] []), (6006, .fork [(6014, .off), (6018, .off), (6025, .off), (6032, .off), (6039, .off), (6046, .off), (6052, .off), (6010, .off)] []), (6010, .fork [(6018, .off), (6025, .off), (6032, .off), (6039, .off), (6046, .off), (6052, .off), (6014, .off)] []), (6014, .fork [(6025, .off), (6032, .off), (6039, .off), (6046, .off), (6052, .off), (6018, .off)] []), (6018, .fork [(6032, .off), (6039, .off), (6046, .off), (6052, .off), (6025, .off)] []), (6025, .fork [(6039, .off), (6046, .off), (6052, .off), (6032, .off)] []), (6032, .fork [(6046, .off), (6052, .off), (6039, .off)] []), (6039, .fork [(6052, .off), (6046, .off)] []), (6046, .fork [(6052, .off)] []), (6052, .fork [] []), (8005, .fork [] [(8012, .off), (8019, .off), (8026, .off), (8033, .off), (8040, .off)]), (8012, .fork [] [(8019, .off), (8026, .off), (8033, .off), (8040, .off)]), (8019, .fork [] [(8026, .off), (8033, .off), (8040, .off)]), (8026, .fork [] [(8033, .off), (8040, .off)]), (8033, .fork [] [(8040, .off)]), (8040, .fork [] [])] mixed Tryz.func9 rfl (by kernel_rfl) (by kernel_rfl)

/-- precentorlaw21.MembFits -/
noncomputable def P3 (a0 : Conf) (a1 : Int) (Φ : List RV → Prop) : Prop :=
 ∃ x1, Cl 4 [] [.pv (B x1)] ∧
 ∃ x2 x3, Cl 5 [eConf a0, I a1] [.pv (eMemb x2), .pv (I x3)] ∧
 ∃ x4 x5, Cl 6 [eConf a0, I a1] [.pv (eMemb x4), .pv (I x5)] ∧
 Fk x1
 (∃ x6, Cl 7 [eConf a0] [.pv (B x6)] ∧
 ∃ x7, Cl 8 [eConf a0] [.pv (B x7)] ∧
 Fk (x6 == x7)
 (∃ x8, Cl 9 [.agg [I x2.conf.n, I x2.conf.mtu, I x2.conf.msg, I x2.conf.buf, I x2.conf.quota, I x2.conf.queue, I x2.conf.wait, I x2.conf.every, I x2.conf.least, I x2.conf.rate, I x2.conf.burst, I x2.conf.high, I x2.conf.low, I x2.conf.window, I x2.conf.hyst, B x2.conf.byLoad, I x2.conf.first, B x2.down, I x2.rel.me, I x2.rel.now, I x2.rel.keep.next, .sl false (List.map eItem x2.rel.keep.l), .sl false (List.map eWin x2.rel.win), .sl false (List.map I x2.rel.top), .sl false (List.map eAsk x2.rel.ask), .sl false (List.map lI x2.rel.have_), .sl false (List.map I x2.rel.lost), I x2.rel.naks, .sl false (List.map lU8 x2.queue), I x2.rate.now, I x2.rate.left, I x2.epoch, I x2.engine, .sl false (List.map eLane x2.lane), I x2.turn.who, I x2.turn.used, B x2.barrier.on, I x2.barrier.next, .sl false (List.map B x2.barrier.acked), .sl false (List.map I x2.barrier.count), B x2.barrier.done, .sl false (List.map I x2.barrier.l), I x2.sent, I x2.meter.at_, I x2.meter.many, I x2.meter.bytes, I x2.want.hits, B x2.switch, .sl false (List.map eDeliv x2.log), I x2.polled, I x2.drops], .agg [I x4.conf.n, I x4.conf.mtu, I x4.conf.msg, I x4.conf.buf, I x4.conf.quota, I x4.conf.queue, I x4.conf.wait, I x4.conf.every, I x4.conf.least, I x4.conf.rate, I x4.conf.burst, I x4.conf.high, I x4.conf.low, I x4.conf.window, I x4.conf.hyst, B x4.conf.byLoad, I x4.conf.first, B x4.down, I x4.rel.me, I x4.rel.now, I x4.rel.keep.next, .sl false (List.map eItem x4.rel.keep.l), .sl false (List.map eWin x4.rel.win), .sl false (List.map I x4.rel.top), .sl false (List.map eAsk x4.rel.ask), .sl false (List.map lI x4.rel.have_), .sl false (List.map I x4.rel.lost), I x4.rel.naks, .sl false (List.map lU8 x4.queue), I x4.rate.now, I x4.rate.left, I x4.epoch, I x4.engine, .sl false (List.map eLane x4.lane), I x4.turn.who, I x4.turn.used, B x4.barrier.on, I x4.barrier.next, .sl false (List.map B x4.barrier.acked), .sl false (List.map I x4.barrier.count), B x4.barrier.done, .sl false (List.map I x4.barrier.l), I x4.sent, I x4.meter.at_, I x4.meter.many, I x4.meter.bytes, I x4.want.hits, B x4.switch, .sl false (List.map eDeliv x4.log), I x4.polled, I x4.drops]] [.pv (B x8)] ∧
 Fk x8
 (Φ [.pv (B (x3 == x5))])
 (Φ [.pv (B false)]))
 (Φ [.pv (B false)]))
 (Φ [.pv (B false)])
theorem t3 (a0 : Conf) (a1 : Int) {Φ : List RV → Prop} (h : P3 a0 a1 Φ) : CtP Tryz.prog 3 [eConf a0, I a1] Φ :=
  ctP_by h 1000 [(1000, .call [.pv .bool]), (2002, .call [.pv (.ty Memb eMemb), .pv (.int .i64)]), (3002, .call [.pv (.ty Memb eMemb), .pv (.int .i64)]), (4001, .fork [] [(4008, .off), (4013, .off)]), (4003, .call [.pv .bool]), (4005, .call [.pv .bool]), (4008, .fork [] [(4013, .off)]), (4011, .call [.pv .bool]), (4013, .fork [] [])] mixed Tryz.func3 rfl (by kernel_rfl) (by kernel_rfl)

/-- bytes.Clone -/
noncomputable def P71 (a0 : List PV) (Φ : List RV → Prop) : Prop :=
 Nq a0
 (Φ [.pv (.sl true [])])
 (Ok (okNews 1 a0) (Sz 0 a0.length 1 (
 Φ [.fresh 5 1 a0])))
theorem t71 (a0 : List PV) {Φ : List RV → Prop} (h : P71 a0 Φ) : CtP Tryz.prog 71 [.sl false a0] Φ :=
  ctP_by h 1000 [(3002, .app true false)] mixed Tryz.func71 rfl (by kernel_rfl) (by kernel_rfl)

/-- slices.Clone[[]int,int] -/
noncomputable def P129 (a0 : List PV) (Φ : List RV → Prop) : Prop :=
 Nq a0
 (Φ [.pv (.sl true [])])
 (Ok (okNews 1 a0) (Sz 0 a0.length 8 (
 Φ [.fresh 3 1 a0])))
theorem t129 (a0 : List PV) {Φ : List RV → Prop} (h : P129 a0 Φ) : CtP Tryz.prog 129 [.sl false a0] Φ :=
  ctP_by h 1000 [(3002, .app true false)] mixed Tryz.func129 rfl (by kernel_rfl) (by kernel_rfl)

/-- slices.Clone[[][]byte,[]byte] -/
noncomputable def P138 (a0 : List PV) (Φ : List RV → Prop) : Prop :=
 Nq a0
 (Φ [.pv (.sl true [])])
 (Ok (okNews 1 a0) (Sz 0 a0.length 24 (
 Φ [.fresh 60 1 a0])))
theorem t138 (a0 : List PV) {Φ : List RV → Prop} (h : P138 a0 Φ) : CtP Tryz.prog 138 [.sl false a0] Φ :=
  ctP_by h 1000 [(3002, .app true false)] mixed Tryz.func138 rfl (by kernel_rfl) (by kernel_rfl)

/-- slices.Clone[[]byte,byte] -/
noncomputable def P147 (a0 : List PV) (Φ : List RV → Prop) : Prop :=
 Nq a0
 (Φ [.pv (.sl true [])])
 (Ok (okNews 1 a0) (Sz 0 a0.length 1 (
 Φ [.fresh 5 1 a0])))
theorem t147 (a0 : List PV) {Φ : List RV → Prop} (h : P147 a0 Φ) : CtP Tryz.prog 147 [.sl false a0] Φ :=
  ctP_by h 1000 [(3002, .app true false)] mixed Tryz.func147 rfl (by kernel_rfl) (by kernel_rfl)

/-- slices.Clone[[][]int,[]int] -/
noncomputable def P154 (a0 : List PV) (Φ : List RV → Prop) : Prop :=
 Nq a0
 (Φ [.pv (.sl true [])])
 (Ok (okNews 1 a0) (Sz 0 a0.length 24 (
 Φ [.fresh 29 1 a0])))
theorem t154 (a0 : List PV) {Φ : List RV → Prop} (h : P154 a0 Φ) : CtP Tryz.prog 154 [.sl false a0] Φ :=
  ctP_by h 1000 [(3002, .app true false)] mixed Tryz.func154 rfl (by kernel_rfl) (by kernel_rfl)

/-- slices.Clone[[]api.Win,api.Win] -/
noncomputable def P159 (a0 : List PV) (Φ : List RV → Prop) : Prop :=
 Nq a0
 (Φ [.pv (.sl true [])])
 (Ok (okNews 2 a0) (Sz 0 a0.length 32 (
 Φ [.fresh 109 2 a0])))
theorem t159 (a0 : List PV) {Φ : List RV → Prop} (h : P159 a0 Φ) : CtP Tryz.prog 159 [.sl false a0] Φ :=
  ctP_by h 1000 [(3002, .app true false)] mixed Tryz.func159 rfl (by kernel_rfl) (by kernel_rfl)

/-- slices.Clone[[]api.Ask,api.Ask] -/
noncomputable def P179 (a0 : List PV) (Φ : List RV → Prop) : Prop :=
 Nq a0
 (Φ [.pv (.sl true [])])
 (Ok (okNews 1 a0) (Sz 0 a0.length 8 (
 Φ [.fresh 114 1 a0])))
theorem t179 (a0 : List PV) {Φ : List RV → Prop} (h : P179 a0 Φ) : CtP Tryz.prog 179 [.sl false a0] Φ :=
  ctP_by h 1000 [(3002, .app true false)] mixed Tryz.func179 rfl (by kernel_rfl) (by kernel_rfl)

/-- slices.Clone[[]api.Lane,api.Lane] -/
noncomputable def P184 (a0 : List PV) (Φ : List RV → Prop) : Prop :=
 Nq a0
 (Φ [.pv (.sl true [])])
 (Ok (okNews 5 a0) (Sz 0 a0.length 72 (
 Φ [.fresh 104 5 a0])))
theorem t184 (a0 : List PV) {Φ : List RV → Prop} (h : P184 a0 Φ) : CtP Tryz.prog 184 [.sl false a0] Φ :=
  ctP_by h 1000 [(3002, .app true false)] mixed Tryz.func184 rfl (by kernel_rfl) (by kernel_rfl)

/-- slices.Clone[[]api.Entry,api.Entry] -/
noncomputable def P234 (a0 : List PV) (Φ : List RV → Prop) : Prop :=
 Nq a0
 (Φ [.pv (.sl true [])])
 (Ok (okNews 5 a0) (Sz 0 a0.length 72 (
 Φ [.fresh 170 5 a0])))
theorem t234 (a0 : List PV) {Φ : List RV → Prop} (h : P234 a0 Φ) : CtP Tryz.prog 234 [.sl false a0] Φ :=
  ctP_by h 1000 [(3002, .app true false)] mixed Tryz.func234 rfl (by kernel_rfl) (by kernel_rfl)

/-- slices.Clone[[]bool,bool] -/
noncomputable def P239 (a0 : List PV) (Φ : List RV → Prop) : Prop :=
 Nq a0
 (Φ [.pv (.sl true [])])
 (Ok (okNews 1 a0) (Sz 0 a0.length 1 (
 Φ [.fresh 4 1 a0])))
theorem t239 (a0 : List PV) {Φ : List RV → Prop} (h : P239 a0 Φ) : CtP Tryz.prog 239 [.sl false a0] Φ :=
  ctP_by h 1000 [(3002, .app true false)] mixed Tryz.func239 rfl (by kernel_rfl) (by kernel_rfl)
end Go.Proofs.YtndomnacflndmaaGreatDoor.M
