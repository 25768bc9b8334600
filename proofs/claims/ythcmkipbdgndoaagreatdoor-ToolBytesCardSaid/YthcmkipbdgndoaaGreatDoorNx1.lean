/- A small machine over plain values: what a Go function computes, without addresses (definitions; no condition). -/
import Derived.Calls
import Derived.Orders
import Derived.LoopN
import Derived.Still
import Derived.ScopeJumps
import Derived.Laws.AppendOwn
import Derived.Laws.Sem
import Derived.Laws.Entries
import Derived.Laws.Cells
import Derived.Laws.CopyRow
import Derived.Laws.MakeOwn
import Derived.Below
import Derived.RowKit
set_option linter.all false
set_option linter.unusedVariables false
set_option linter.unusedSimpArgs false
set_option linter.unnecessarySimpa false
namespace Go.Mir
open Go

/-- Values that hang on no memory that may change. -/
inductive PV where
  | lit (v : Value)
  | sl (full : Bool) (es : List PV)
  | ip (cs : List PV) (off : Nat)
  | agg (cs : List PV)
  | tuple (vs : List PV)
  | fn (f : Fn) (first caps : List PV)
  | map (es : List (Value × PV))
  | iface (t : TypeId) (v : PV)
  deriving Inhabited

/-- Values of a frame: as above, or with names of memory that is one's own: ms: a slice of a row; rp: the address of a row's element; bp: of a variable's cell; mm: a map. -/
inductive AV where
  | bot
  | pv (p : PV)
  | ms (k off len : Nat) (own : Bool)
  | rp (k i off : Nat)
  | bp (k off : Nat)
  | mm (k : Nat)
  | agg (cs : List AV)
  | tuple (vs : List AV)
  | fn (f : Fn) (first caps : List AV)
  | nilq (neg : Bool) (es : List PV)
  | yl (k : Nat)
  | gp (g off : Nat)
  deriving Inhabited

/-- What one's own memory holds. -/
inductive Blk where
  | box (live : Bool) (cs : List AV)
  | row (live : Bool) (e : TypeId) (sz : Nat) (es : List PV)
  | map (live : Bool) (es : List (Value × PV))
  | fmap (live : Bool) (es : List (Value × AV))
  | it (live : Bool) (s : ByteArray) (pos : Nat)
  | stale
  | lp (live busy : Bool) (pend : Option Code)
  | gl (g : Nat) (cs : List PV)
  deriving Inhabited

noncomputable def _root_.Go.Value.flat : Value → Bool
  | .bool _ | .int _ _ | .float _ _ | .complex _ _ _ | .string _ | .pointer none | .nilFunc | .nilIface | .map none => true
  | _ => false

noncomputable def PV.ofCell : Value → Option PV
  | .slice none 0 0 => some (.sl true [])
  | v => if v.flat then some (.lit v) else none

noncomputable def PV.ofCells : List Value → Option (List PV)
  | [] => some []
  | v :: r => match PV.ofCell v, PV.ofCells r with
    | some p, some ps => some (p :: ps)
    | _, _ => none

noncomputable def PV.ofValue : Value → Option PV
  | .agg cs => (PV.ofCells cs.toList).map .agg
  | v => PV.ofCell v

noncomputable def PV.cells : PV → List PV
  | .agg ps => ps
  | p => [p]

noncomputable def AV.cells : AV → List AV
  | .agg cs => cs
  | .pv p => p.cells.map .pv
  | x => [x]

noncomputable def allPV : List AV → Option (List PV)
  | [] => some []
  | .pv p :: r => match allPV r with
    | some ps => some (p :: ps)
    | none => none
  | _ => none

noncomputable def AV.mkAgg (cs : List AV) : AV := match allPV cs with
  | some ps => .pv (.agg ps)
  | none => .agg cs

noncomputable def AV.mkTuple (cs : List AV) : AV := match allPV cs with
  | some ps => .pv (.tuple ps)
  | none => .tuple cs

noncomputable def AV.mkFn (f : Fn) (a c : List AV) : AV := match allPV a, allPV c with
  | some ps, some qs => .pv (.fn f ps qs)
  | _, _ => .fn f a c

/-- One cell holds it. -/
noncomputable def PV.isCell : PV → Bool
  | .agg _ | .tuple _ => false
  | _ => true
noncomputable def AV.isCell : AV → Bool
  | .bot | .agg _ | .tuple _ => false
  | .pv p => p.isCell
  | _ => true
noncomputable def PV.isAgg : PV → Bool
  | .agg _ => true
  | _ => false

/-- Rows by number, the last ahead. -/
noncomputable def ins {α : Type} (k : Nat) (x : α) (l : List (Nat × α)) : List (Nat × α) :=
  List.rec (motive := fun _ => List (Nat × α)) [(k, x)] (fun p r ih => Bool.rec ((k, x) :: p :: r) (Bool.rec (p :: ih) ((k, x) :: r) (Nat.beq k p.1)) (Nat.ble k p.1)) l
theorem ins_nil {α : Type} (k : Nat) (x : α) : ins k x [] = [(k, x)] := rfl
theorem ins_cons {α : Type} (k : Nat) (x : α) (j : Nat) (y : α) (r : List (Nat × α)) : ins k x ((j, y) :: r) = if j < k then (k, x) :: (j, y) :: r else if k = j then (k, x) :: r else (j, y) :: ins k x r := by
  have e : ins k x ((j, y) :: r) = Bool.rec ((k, x) :: (j, y) :: r) (Bool.rec ((j, y) :: ins k x r) ((k, x) :: r) (Nat.beq k j)) (Nat.ble k j) := rfl
  rw [e]
  cases h : Nat.ble k j with
  | false => have : ¬ k ≤ j := fun h' => by rw [Nat.ble_eq_true_of_le h'] at h; cases h
             rw [if_pos (by omega)]
  | true =>
    have : k ≤ j := Nat.le_of_ble_eq_true h
    rw [if_neg (by omega)]
    cases h2 : Nat.beq k j with
    | true => rw [if_pos (Nat.eq_of_beq_eq_true h2)]
    | false => rw [if_neg (Nat.ne_of_beq_eq_false h2)]

noncomputable def lk {α : Type} (l : List (Nat × α)) (k : Nat) : Option α :=
  List.rec (motive := fun _ => Option α) none (fun p _ ih => Bool.rec ih (some p.2) (Nat.beq p.1 k)) l
theorem lk_nil {α : Type} (k : Nat) : lk ([] : List (Nat × α)) k = none := rfl
theorem lk_cons {α : Type} (j : Nat) (y : α) (r : List (Nat × α)) (k : Nat) : lk ((j, y) :: r) k = if j = k then some y else lk r k := by
  have e : lk ((j, y) :: r) k = Bool.rec (lk r k) (some y) (Nat.beq j k) := rfl
  rw [e]
  cases h2 : Nat.beq j k with
  | true => rw [if_pos (Nat.eq_of_beq_eq_true h2)]
  | false => rw [if_neg (Nat.ne_of_beq_eq_false h2)]

abbrev Store := List (Nat × Blk)
abbrev Env := List (Nat × AV)

structure St where
  env : Env
  sto : Store
  clk : Nat
  nt : Nat

noncomputable def evE (env : Env) : Operand → AV
  | .tmp t => (lk env t).getD .bot
  | .const v => match PV.ofValue v with
    | some p => .pv p
    | none => .bot
  | .func f => .pv (.fn (.func f) [] [])
  | .global g => .gp g 0

/-- What an operation does: its value, what it writes of one's own memory, which names it met. -/
structure Eff where
  val : AV
  mem : List (Nat × Blk)
  reads : List Nat

noncomputable def _root_.Go.Sem.val? {α : Type} (P : Program) : Sem α → Option α
  | .pure a => some a
  | .program k => Sem.val? P (k P)
  | _ => none

noncomputable def sz (P : Program) (t : TypeId) : Option Nat := (P.info? t).map (·.size)
noncomputable def zr (P : Program) (t : TypeId) : Option PV := match P.info? t with
  | some i => match i.zero with
    | some v => PV.ofValue v
    | none => none
  | none => none
noncomputable def byt (P : Program) (t : TypeId) : Option Nat := (P.info? t).map (·.bytes)
noncomputable def isAggT (P : Program) (t : TypeId) : Option Bool := match P.underlying t with
  | some (.struct _) => some true
  | some (.array _ _) => some true
  | some _ => some false
  | none => none

noncomputable def isArrT (P : Program) (t : TypeId) : Bool := match P.underlying t with
  | some (.array _ _) => true
  | _ => false
noncomputable def isSliceT (P : Program) (t : TypeId) : Bool := match P.underlying t with
  | some (.slice _) => true
  | _ => false
noncomputable def valE (x : AV) : Option Eff := some ⟨x, [], []⟩
noncomputable def litE (v : Value) : Option Eff := if v.flat then some ⟨.pv (.lit v), [], []⟩ else none

/-- A fresh name's block. -/
noncomputable def newE (k : Nat) (σ : Store) (x : AV) (b : Blk) (reads : List Nat) (mem : List (Nat × Blk)) : Option Eff := match lk σ k with
  | none => some ⟨x, mem ++ [(k, b)], k :: reads⟩
  | some _ => none

/-- A variable: a box of cells, or (asked) a row of them. -/
noncomputable def allocE (z : Bool) (e : TypeId) (n : Nat) (y : PV) (k : Nat) (σ : Store) : Option Eff := match z with
  | false => newE k σ (.bp k 0) (.box true (y.cells.map .pv)) [] []
  | true => match Nat.ble n 65536 with
    | true => newE k σ (.rp k 0 0) (.row true e 1 y.cells) [] []
    | false => none

/-- The name of a package variable that is known. -/
noncomputable def gk (g : Nat) : Nat := g * 8 + 5

/-! ### Cells -/
noncomputable def readCells (σ : Store) (n : Nat) : AV → Option (List AV × List Nat)
  | .bp k off => match lk σ k with
    | some (.box _ cs) => if off + n ≤ cs.length then some ((cs.drop off).take n, [k]) else none
    | _ => none
  | .rp k i off => match lk σ k with
    | some (.row _ _ _ es) => match es[i]? with
      | some p => if off + n ≤ p.cells.length then some (((p.cells.drop off).take n).map .pv, [k]) else none
      | none => none
    | _ => none
  | .pv (.ip cs off) => if off + n ≤ cs.length then some (((cs.drop off).take n).map .pv, []) else none
  | .gp g off => match lk σ (gk g) with
    | some (.gl g' cs) => if g' = g ∧ off + n ≤ cs.length then some (((cs.drop off).take n).map .pv, [gk g]) else none
    | _ => none
  | _ => none

noncomputable def loadE (P : Program) (t : TypeId) (σ : Store) (a : AV) : Option Eff := match sz P t, isAggT P t with
  | some n, some true => match readCells σ n a with
    | some (cs, ks) => some ⟨AV.mkAgg cs, [], ks⟩
    | none => none
  | some _, some false => match readCells σ 1 a with
    | some ([x], ks) => some ⟨x, [], ks⟩
    | _ => none
  | _, _ => none

/-! ### A value as it stands, with all that it names -/
noncomputable def mapR (f : AV → Option (PV × List Nat)) : List AV → Option (List PV × List Nat)
  | [] => some ([], [])
  | y :: r => match f y, mapR f r with
    | some (p, ks), some (ps, ks') => some (p :: ps, ks ++ ks')
    | _, _ => none

noncomputable def resolve (σ : Store) : Nat → AV → Option (PV × List Nat)
  | 0, _ => none
  | n + 1, x => match x with
    | .pv p => some (p, [])
    | .bot => none
    | .ms k off len own => match lk σ k with
      | some (.row _ _ _ es) => if own then some (.sl false es, [k]) else if off + len ≤ es.length then some (.sl false ((es.drop off).take len), [k]) else none
      | _ => none
    | .rp k i off => match lk σ k with
      | some (.row _ _ _ es) => match es[i]? with
        | some p => some (.ip p.cells off, [k])
        | none => none
      | _ => none
    | .bp k off => match lk σ k with
      | some (.box _ cs) => match mapR (resolve σ n) cs with
        | some (ps, ks) => some (.ip ps off, k :: ks)
        | none => none
      | _ => none
    | .nilq _ _ => none
    | .yl _ => none
    | .gp g off => match lk σ (gk g) with
      | some (.gl g' cs) => if g' = g then some (.ip cs off, [gk g]) else none
      | _ => none
    | .mm k => match lk σ k with
      | some (.map _ es) => some (.map es, [k])
      | _ => none
    | .agg cs => match mapR (resolve σ n) cs with
      | some (ps, ks) => some (.agg ps, ks)
      | none => none
    | .tuple cs => match mapR (resolve σ n) cs with
      | some (ps, ks) => some (.tuple ps, ks)
      | none => none
    | .fn f a c => match mapR (resolve σ n) a, mapR (resolve σ n) c with
      | some (ps, ks), some (qs, ls) => some (.fn f ps qs, ks ++ ls)
      | _, _ => none

noncomputable def deep : Nat := 12

/-- What is met may be written no more. -/
noncomputable def Blk.freeze : Blk → Blk
  | .box _ cs => .box false cs
  | .row _ e s es => .row false e s es
  | .map _ es => .map false es
  | .fmap _ es => .fmap false es
  | .it _ s pos => .it false s pos
  | .stale => .stale
  | .lp _ b p => .lp false b p
  | .gl g cs => .gl g cs
noncomputable def freezeE (σ : Store) : List Nat → List (Nat × Blk)
  | [] => []
  | k :: ks => match lk σ k with
    | some b => (k, b.freeze) :: freezeE σ ks
    | none => freezeE σ ks

/-- Cells as one element. -/
noncomputable def PV.ofCellsB : Bool → List PV → Option PV
  | true, cs => some (.agg cs)
  | false, [c] => if c.isCell then some c else none
  | _, _ => none

noncomputable def storeE (P : Program) (t : TypeId) (σ : Store) (a x : AV) : Option Eff := match sz P t, a with
  | some n, .bp k off => match lk σ k with
    | some (.box true cs) =>
      if x.cells.length = n ∧ off + n ≤ cs.length ∧ x.cells.all AV.isCell = true then
        some ⟨.pv (.tuple []), [(k, .box true (cs.take off ++ x.cells ++ cs.drop (off + n)))], [k]⟩
      else none
    | _ => none
  | some n, .rp k i off => match lk σ k with
    | some (.row true e s es) => match es[i]?, resolve σ deep x with
      | some y, some (p, ks) =>
        if p.cells.length = n ∧ off + n ≤ y.cells.length ∧ p.cells.all PV.isCell = true ∧ k ∉ ks then
          match PV.ofCellsB y.isAgg (y.cells.take off ++ p.cells ++ y.cells.drop (off + n)) with
          | some z => some ⟨.pv (.tuple []), freezeE σ ks ++ [(k, .row true e s (es.set i z))], k :: ks⟩
          | none => none
        else none
      | _, _ => none
    | _ => none
  | _, _ => none

/-- A whole array, into the row that it is. -/
noncomputable def storeA (P : Program) (t : TypeId) (σ : Store) (a x : AV) : Option Eff := match sz P t, a, x with
  | some n, .rp k 0 0, .pv p => match lk σ k with
    | some (.row true e 1 es) => if p.cells.length = n ∧ es.length = n ∧ 0 < n ∧ p.cells.all PV.isCell = true then some ⟨.pv (.tuple []), [(k, .row true e 1 p.cells)], [k]⟩ else none
    | _ => none
  | _, _, _ => none
noncomputable def storeZ (P : Program) (z : Bool) (t : TypeId) (σ : Store) (a x : AV) : Option Eff := match z with
  | false => storeE P t σ a x
  | true => match storeA P t σ a x with
    | some e => some e
    | none => storeE P t σ a x

/-! ### Addresses, parts -/
noncomputable def addrAdd (n : Nat) : AV → Option AV
  | .bp k off => some (.bp k (off + n))
  | .rp k i off => some (.rp k i (off + n))
  | .gp g off => some (.gp g (off + n))
  | .pv (.ip cs off) => some (.pv (.ip cs (off + n)))
  | _ => none

noncomputable def partE (P : Program) (t : TypeId) (cs : List AV) (off : Nat) : Option Eff := match isAggT P t, sz P t with
  | some true, some n => if off + n ≤ cs.length then valE (AV.mkAgg ((cs.drop off).take n)) else none
  | some false, _ => match cs[off]? with
    | some x => valE x
    | none => none
  | _, _ => none

noncomputable def AV.aggCells : AV → Option (List AV)
  | .agg cs => some cs
  | .pv (.agg ps) => some (ps.map .pv)
  | _ => none

noncomputable def asI : AV → Option Int
  | .pv (.lit (.int _ i)) => some i
  | _ => none

/-- A bound of a slice expression, if there is one. -/
noncomputable def bndE (d : Nat) : Option AV → Option Nat
  | none => some d
  | some x => match asI x with
    | some i => if 0 ≤ i then some i.toNat else none
    | none => none

noncomputable def sliceS (s : ByteArray) (lo hi mx : Option AV) : Option Eff := match bndE 0 lo, bndE s.size hi, mx with
  | some l, some h, none => if l ≤ h ∧ h ≤ s.size then valE (.pv (.lit (.string (s.extract l h)))) else none
  | _, _, _ => none

/-- n: cells of an element. -/
noncomputable def sliceE (n : Nat) (σ : Store) (x : AV) (lo hi mx : Option AV) : Option Eff := match x with
  | .pv (.sl full es) => match bndE 0 lo, bndE es.length hi with
    | some l, some h => if l = 0 ∨ es.all (fun p => decide (p.cells.length = n)) = true then match mx with
      | none => if l ≤ h ∧ h ≤ es.length then valE (.pv (.sl (full && decide (h = es.length)) ((es.drop l).take (h - l)))) else none
      | some m => match bndE 0 (some m), hi with
        | some m, some _ => if l ≤ h ∧ h ≤ m ∧ m ≤ es.length then valE (.pv (.sl (decide (m = h)) ((es.drop l).take (h - l)))) else none
        | _, _ => none
      else none
    | _, _ => none
  | .ms k off len own => match lk σ k with
    | some (.row _ _ s _) => match bndE 0 lo, bndE len hi with
      | some l, some h => if s = n then match mx with
        | none => if l ≤ h ∧ h ≤ len then some ⟨.ms k (off + l) (h - l) false, [], [k]⟩ else none
        | some m => match bndE 0 (some m), hi with
          | some m, some _ => if l ≤ h ∧ h ≤ m ∧ m ≤ len then some ⟨.ms k (off + l) (h - l) false, [], [k]⟩ else none
          | _, _ => none
        else none
      | _, _ => none
    | _ => none
  | _ => none

/-- A row of one's own, from which all goes: its room stays. -/
noncomputable def truncE (k : Nat) (σ : Store) (r : Nat) : Option Eff := match lk σ r with
  | some (.row true e s _) => if r = k then none else newE k σ (.ms k 0 0 true) (.row true e s []) [r] [(r, .stale)]
  | _ => none
/-- A piece of a row, with its room told: the row is written no more. -/
noncomputable def clipE (n : Nat) (σ : Store) (x : AV) (lo hi mx : Option AV) : Option Eff := match resolve σ deep x with
  | some (p, ks) => match sliceE n σ (.pv p) lo hi mx with
    | some e => some ⟨e.val, freezeE σ ks, ks⟩
    | none => none
  | none => none
noncomputable def sliceK (z : Bool) (k n : Nat) (σ : Store) (x : AV) (lo hi mx : Option AV) : Option Eff := match z with
  | false => sliceE n σ x lo hi mx
  | true => match x, lo, hi, mx with
    | .ms r _ _ true, none, some (.pv (.lit (.int .i64 0))), none => truncE k σ r
    | .ms r off len own, lo, hi, some m => clipE n σ (.ms r off len own) lo hi (some m)
    | x, lo, hi, mx => sliceE n σ x lo hi mx

/-- All of a row that an array is. -/
noncomputable def sliceArr (P : Program) (n : Nat) (e : TypeId) (x : AV) (σ : Store) : Option Eff := match x, sz P e with
  | .rp k 0 0, some s => match lk σ k with
    | some (.row _ _ s' _) => if s' = s then some ⟨.ms k 0 n false, [], [k]⟩ else none
    | _ => none
  | _, _ => none
noncomputable def indexAddrE (P : Program) (t : TypeId) (x ix : AV) (σ : Store) : Option Eff := match P.underlying t, asI ix with
  | some (.slice e), some i => match x with
    | .pv (.sl _ es) => if 0 ≤ i then match es[i.toNat]? with
        | some p => if sz P e = some p.cells.length ∧ 0 < p.cells.length then valE (.pv (.ip p.cells 0)) else none
        | none => none
      else none
    | .ms k off len _ => match lk σ k with
      | some (.row _ _ s _) => if 0 ≤ i ∧ i < (len : Int) ∧ sz P e = some s then some ⟨.rp k (off + i.toNat) 0, [], [k]⟩ else none
      | _ => none
    | _ => none
  | some (.array n e), some i => match sz P e with
    | some s => if 0 ≤ i ∧ i < (n : Int) then match addrAdd (i.toNat * s) x with
        | some y => valE y
        | none => none
      else none
    | none => none
  | _, _ => none

/-- A place of a row that an array is. -/
noncomputable def arrAddrE (P : Program) (t : TypeId) (x ix : AV) (σ : Store) : Option Eff := match P.underlying t, asI ix with
  | some (.array n e), some i => match x with
    | .rp k 0 0 => match lk σ k with
      | some (.row _ _ s _) => if 0 ≤ i ∧ i < (n : Int) ∧ sz P e = some s then some ⟨.rp k i.toNat 0, [], [k]⟩ else none
      | _ => none
    | _ => none
  | _, _ => none
noncomputable def indexAddrZ (P : Program) (z : Bool) (t : TypeId) (x ix : AV) (σ : Store) : Option Eff := match z with
  | false => indexAddrE P t x ix σ
  | true => arrAddrE P t x ix σ

noncomputable def indexE (P : Program) (t : TypeId) (x ix : AV) : Option Eff := match P.underlying t, asI ix with
  | some (.array n e), some i => match x.aggCells, sz P e with
    | some cs, some s => if 0 ≤ i ∧ i < (n : Int) then partE P e cs (i.toNat * s) else none
    | _, _ => none
  | some .string, some i => match x with
    | .pv (.lit (.string s)) => if 0 ≤ i then match s[i.toNat]? with
        | some b => valE (.pv (.lit (.int .u8 b.toNat)))
        | none => none
      else none
    | _ => none
  | _, _ => none

/-! ### Things that are built -/
noncomputable def fillA (place : Nat → Option (Nat × Nat)) (cs : List AV) : List (Nat × AV) → Option (List AV)
  | [] => some cs
  | (i, x) :: r => match place i with
    | none => none
    | some (off, n) => if x.cells.length = n ∧ off + n ≤ cs.length ∧ x.cells.all AV.isCell = true then fillA place (cs.take off ++ x.cells ++ cs.drop (off + n)) r else none

noncomputable def placesOf (P : Program) : List Field → Option (List (Nat × Nat))
  | [] => some []
  | f :: fs => match sz P f.type, placesOf P fs with
    | some n, some r => some ((f.offset, n) :: r)
    | _, _ => none

noncomputable def buildE (P : Program) (t : TypeId) (parts : List (Nat × AV)) : Option Eff := match zr P t, P.underlying t with
  | some z, some (.struct fs) => match placesOf P fs.toList with
    | some ps => match fillA (fun i => ps[i]?) (z.cells.map .pv) parts with
      | some cs => valE (AV.mkAgg cs)
      | none => none
    | none => none
  | some z, some (.array _ e) => match sz P e with
    | some s => match fillA (fun i => some (i * s, s)) (z.cells.map .pv) parts with
      | some cs => valE (AV.mkAgg cs)
      | none => none
    | none => none
  | _, _ => none

/-- Elements of a slice literal: each part is one. -/
noncomputable def fillS (σ : Store) (n : Nat) (es : List PV) : List (Nat × AV) → Option (List PV × List Nat)
  | [] => some (es, [])
  | (i, x) :: r => match resolve σ deep x with
    | some (p, ks) => if p.cells.length = n ∧ i < es.length ∧ p.cells.all PV.isCell = true then match fillS σ n (es.set i p) r with
        | some (es', ks') => some (es', ks ++ ks')
        | none => none
      else none
    | none => none

noncomputable def buildSliceE (P : Program) (t : TypeId) (len : Nat) (parts : List (Nat × AV)) (k : Nat) (σ : Store) : Option Eff := match P.underlying t with
  | some (.slice e) => match sz P e, zr P e with
    | some n, some z => if z.cells.length = n ∧ 0 < n ∧ len * n ≤ 16777216 then match fillS σ n (List.replicate len z) parts with
        | some (es, ks) => newE k σ (.ms k 0 len true) (.row true e n es) ks (freezeE σ ks)
        | none => none
      else none
    | _, _ => none
  | _ => none

noncomputable def makeSliceE (P : Program) (t : TypeId) (l c : AV) (k : Nat) (σ : Store) : Option Eff := match P.underlying t, asI l, asI c with
  | some (.slice e), some l, some c => match sz P e, zr P e, byt P e with
    | some n, some z, some b =>
      if z.cells.length = n ∧ 0 < n ∧ 0 ≤ l ∧ l ≤ c ∧ (b : Int) * c ≤ 281474976710656 ∧ c ≤ 9223372036854775807 then
        newE k σ (.ms k 0 l.toNat true) (.row true e n (List.replicate l.toNat z)) [] []
      else none
    | _, _, _ => none
  | _, _, _ => none

/-! ### Maps: keys are numbers, texts, bools -/
noncomputable def plainKey : Value → Bool
  | .int _ _ | .string _ | .bool _ => true
  | _ => false
noncomputable def keyEq : Value → Value → Option Bool
  | .int k a, .int k' b => if k = k' then some (a == b) else none
  | .string a, .string b => some (a == b)
  | .bool a, .bool b => some (a == b)
  | _, _ => none
noncomputable def findM {α : Type} (k : Value) : List (Value × α) → Option (Option α)
  | [] => some none
  | (j, p) :: r => match keyEq k j with
    | some true => some (some p)
    | some false => findM k r
    | none => none

noncomputable def kindKey (P : Program) (t : TypeId) (key : Value) : Bool := match P.underlying t, key with
  | some (.int _), .int _ _ | some .string, .string _ | some .bool, .bool _ => true
  | _, _ => false

noncomputable def lookupE (P : Program) (t : TypeId) (x ix : AV) (ok : Bool) (σ : Store) : Option Eff := match P.underlying t, ix with
  | some (.map kt et), .pv (.lit key) =>
    if kindKey P kt key then
      match (match x with
        | .pv (.map es) => some (es, [])
        | .pv (.lit (.map none)) => some ([], [])
        | .mm k => match lk σ k with
          | some (.map _ es) => some (es, [k])
          | _ => none
        | _ => none), zr P et with
      | some (es, ks), some z => match findM key es with
        | some (some p) => some ⟨if ok then .pv (.tuple [p, .lit (.bool true)]) else .pv p, [], ks⟩
        | some none => some ⟨if ok then .pv (.tuple [z, .lit (.bool false)]) else .pv z, [], ks⟩
        | none => none
      | _, _ => none
    else none
  | _, _ => none

/-- A new key alone. -/
noncomputable def insertE (P : Program) (t : TypeId) (m k x : AV) (σ : Store) : Option Eff := match P.underlying t, m, k with
  | some (.map kt _), .mm r, .pv (.lit key) => if kindKey P kt key then match lk σ r, resolve σ deep x with
      | some (.map true es), some (p, ks) => match findM key es with
        | some none => if r ∈ ks then none else some ⟨.pv (.tuple []), freezeE σ ks ++ [(r, .map true (es ++ [(key, p)]))], r :: ks⟩
        | _ => none
      | _, _ => none
    else none
  | _, _, _ => none

/-- Closures with memory of their own, in a map: a key, a new key. -/
noncomputable def lookupF (P : Program) (t : TypeId) (x ix : AV) (ok : Bool) (σ : Store) : Option Eff := match x with
  | .mm k => match P.underlying t, ix with
    | some (.map kt et), .pv (.lit key) =>
      if kindKey P kt key then
        match lk σ k, zr P et with
        | some (.fmap _ es), some z => match findM key es with
          | some (some y) => some ⟨if ok then AV.mkTuple [y, .pv (.lit (.bool true))] else y, [], [k]⟩
          | some none => some ⟨if ok then .pv (.tuple [z, .lit (.bool false)]) else .pv z, [], [k]⟩
          | none => none
        | _, _ => none
      else none
    | _, _ => none
  | _ => none
noncomputable def insertF (P : Program) (t : TypeId) (m k x : AV) (σ : Store) : Option Eff := match P.underlying t, m, k with
  | some (.map kt _), .mm r, .pv (.lit key) => if kindKey P kt key then match lk σ r with
      | some (.map true []) => some ⟨.pv (.tuple []), [(r, .fmap true [(key, x)])], [r]⟩
      | some (.fmap true es) => match findM key es with
        | some none => some ⟨.pv (.tuple []), [(r, .fmap true (es ++ [(key, x)]))], [r]⟩
        | _ => none
      | _ => none
    else none
  | _, _, _ => none
noncomputable def lookupZ (P : Program) (z : Bool) (t : TypeId) (x ix : AV) (ok : Bool) (σ : Store) : Option Eff := match z with
  | false => lookupE P t x ix ok σ
  | true => match lookupF P t x ix ok σ with
    | some e => some e
    | none => lookupE P t x ix ok σ
noncomputable def insertZ (P : Program) (z : Bool) (t : TypeId) (m k x : AV) (σ : Store) : Option Eff := match z with
  | false => insertE P t m k x σ
  | true => insertF P t m k x σ

/-! ### Structs that are compared -/
noncomputable def eqF (g : TypeId → PV → PV → Option Bool) (P : Program) (cs ds : List PV) : List Field → Option Bool
  | [] => some true
  | f :: fs => match f.name == "_", partE P f.type (cs.map .pv) f.offset, partE P f.type (ds.map .pv) f.offset with
    | false, some ⟨.pv p, _, _⟩, some ⟨.pv q, _, _⟩ => match g f.type p q, eqF g P cs ds fs with
      | some a, some b => some (a && b)
      | _, _ => none
    | _, _, _ => none
noncomputable def eqI (g : TypeId → PV → PV → Option Bool) (P : Program) (e : TypeId) (n : Nat) (cs ds : List PV) : List Nat → Option Bool
  | [] => some true
  | i :: is => match partE P e (cs.map .pv) (i * n), partE P e (ds.map .pv) (i * n) with
    | some ⟨.pv p, _, _⟩, some ⟨.pv q, _, _⟩ => match g e p q, eqI g P e n cs ds is with
      | some a, some b => some (a && b)
      | _, _ => none
    | _, _ => none
/-- Are two of a type the same? -/
noncomputable def eqA (P : Program) : Nat → TypeId → PV → PV → Option Bool
  | 0, _, _, _ => none
  | n + 1, t, x, y => match x, y with
    | .agg cs, .agg ds => match P.underlying t, P.stoodInHeld t with
      | some (.struct fs), false => eqF (eqA P n) P cs ds fs.toList
      | some (.array len e), _ => match sz P e with
        | some m => eqI (eqA P n) P e m cs ds (List.range len)
        | none => none
      | _, _ => none
    | .lit (.int k1 a), .lit (.int k2 b) => match P.underlying t with
      | some (.int _) => if k1 = k2 then some (a == b) else none
      | _ => none
    | .lit (.bool a), .lit (.bool b) => match P.underlying t with
      | some .bool => some (a == b)
      | _ => none
    | .lit (.string a), .lit (.string b) => match P.underlying t with
      | some .string => some (a == b)
      | _ => none
    | _, _ => none
noncomputable def eqE (P : Program) (op : BinOp) (t : TypeId) (cs ds : List PV) : Option Eff := match isAggT P t, P.eqGuardType P.depth t with
  | some true, false => match op, eqA P 6 t (.agg cs) (.agg ds) with
    | .eql, some b => valE (.pv (.lit (.bool b)))
    | .neq, some b => valE (.pv (.lit (.bool (!b))))
    | _, _ => none
  | _, _ => none

/-! ### Builtins -/
noncomputable def toBytes : List PV → Option (List UInt8)
  | [] => some []
  | .lit (.int .u8 n) :: r => match toBytes r with
    | some bs => some (UInt8.ofNat n.toNat :: bs)
    | none => none
  | _ => none

/-- A slice's elements. -/
noncomputable def elems (σ : Store) : AV → Option (List PV × List Nat)
  | .pv (.sl _ es) => some (es, [])
  | .ms k off len own => match lk σ k with
    | some (.row _ _ _ es) => if own then some (es, [k]) else if off + len ≤ es.length then some ((es.drop off).take len, [k]) else none
    | _ => none
  | _ => none

noncomputable def lenE (P : Program) (t : TypeId) (x : AV) (σ : Store) : Option Eff := match P.underlying t, x with
  | some (.slice _), .pv (.sl _ es) => valE (.pv (.lit (.int .i64 es.length)))
  | some (.slice _), .ms _ _ len _ => valE (.pv (.lit (.int .i64 len)))
  | some .string, .pv (.lit (.string s)) => valE (.pv (.lit (.int .i64 s.size)))
  | some (.map _ _), .pv (.map es) => valE (.pv (.lit (.int .i64 es.length)))
  | some (.map _ _), .mm k => match lk σ k with
    | some (.map _ es) => some ⟨.pv (.lit (.int .i64 es.length)), [], [k]⟩
    | _ => none
  | _, _ => none

/-- The room of a slice: told only where none is left. -/
noncomputable def capE (P : Program) (t : TypeId) (x : AV) : Option Eff := match P.underlying t, x with
  | some (.slice _), .pv (.sl true es) => valE (.pv (.lit (.int .i64 es.length)))
  | _, _ => none

noncomputable def appendE (P : Program) (t tx : TypeId) (s x : AV) (k : Nat) (σ : Store) : Option Eff := match P.underlying t, P.underlying tx, elems σ x with
  | some (.slice e), some (.slice _), some (news, ks) => match sz P e, zr P e, byt P e with
    | some n, some z, some b =>
      if z.cells.length = n ∧ 0 < n ∧ 0 < b ∧ news.all (fun p => decide (p.cells.length = n)) = true ∧ news.all (fun p => p.cells.all PV.isCell) = true then
        match s with
        | .ms r off len own => match lk σ r with
          | some (.row true e' s' es) =>
            if own = true ∧ e' = e ∧ s' = n ∧ r ∉ ks ∧ (es.length + news.length) * b ≤ 140737488355328 then
              newE k σ (.ms k 0 (es.length + news.length) true) (.row true e n (es ++ news)) (r :: ks) [(r, .stale)]
            else none
          | _ => none
        | .pv (.sl true es) =>
          if (es.length + news.length) * b ≤ 140737488355328 then
            if (es.isEmpty || !news.isEmpty) && es.all (fun p => decide (p.cells.length = n)) then newE k σ (.ms k 0 (es.length + news.length) true) (.row true e n (es ++ news)) ks []
            else if news.isEmpty then some ⟨.pv (.sl true es), [], ks⟩
            else none
          else none
        | _ => none
      else none
    | _, _, _ => none
  | _, _, _ => none

/-- n zero elements behind nothing. -/
noncomputable def appendZ (P : Program) (t tx : TypeId) (s x : AV) (k : Nat) (σ : Store) : Option Eff := match P.underlying t, P.underlying tx, s, x with
  | some (.slice e), some (.int _), .pv (.sl true []), .pv (.lit (.int .i64 i)) => match sz P e, zr P e, byt P e with
    | some n, some z, some b => if z.cells.length = n ∧ z.cells.all PV.isCell = true ∧ 0 < n ∧ 0 < i ∧ i ≤ 140737488355328 ∧ i * b ≤ 140737488355328 then newE k σ (.ms k 0 i.toNat true) (.row true e n (List.replicate i.toNat z)) [] [] else none
    | _, _, _ => none
  | _, _, _, _ => none

/-- What a slice of one's own holds is made nought. -/
noncomputable def clearE (P : Program) (t : TypeId) (x : AV) (σ : Store) : Option Eff := match P.underlying t, x with
  | some (.slice el), .ms k off len _ => match lk σ k, sz P el, zr P el with
    | some (.row true e s es), some n, some z => if s = n ∧ z.cells.length = n ∧ z.cells.all PV.isCell = true ∧ 0 < n ∧ off + len ≤ es.length then some ⟨.pv (.tuple []), [(k, .row true e s (es.take off ++ List.replicate len z ++ es.drop (off + len)))], [k]⟩ else none
    | _, _, _ => none
  | _, _ => none

/-- All of a slice, into a slice of one's own that is long enough. -/
noncomputable def copyE (P : Program) (t : TypeId) (x y : AV) (σ : Store) : Option Eff := match P.underlying t, x, elems σ y with
  | some (.slice el), .ms k off len _, some (fs, ks) => match lk σ k, sz P el with
    | some (.row true e s es), some n => if s = n ∧ 0 < n ∧ off + len ≤ es.length ∧ fs.length ≤ len ∧ fs.all (fun p => decide (p.cells.length = n)) = true ∧ fs.all (fun p => p.cells.all PV.isCell) = true then some ⟨.pv (.lit (.int .i64 fs.length)), [(k, .row true e s (es.take off ++ fs ++ es.drop (off + fs.length)))], k :: ks⟩ else none
    | _, _ => none
  | _, _, _ => none

noncomputable def litVals : List AV → Option (List Value)
  | [] => some []
  | .pv (.lit v) :: r => match litVals r with
    | some vs => some (v :: vs)
    | none => none
  | _ => none

noncomputable def builtinE (P : Program) (b : Builtin) (ts : Array TypeId) (ty : TypeId) (args : List AV) (k : Nat) (σ : Store) : Option Eff := match b, ts.toList, args with
  | .len, [t], [x] => lenE P t x σ
  | .cap, [t], [x] => capE P t x
  | .append, [t, tx], [s, x] => match P.underlying tx with
    | some (.int _) => appendZ P t tx s x k σ
    | _ => appendE P t tx s x k σ
  | .clear, [t], [x] => clearE P t x σ
  | .copy, [t, _], [x, y] => copyE P t x y σ
  | .max, _, _ => match litVals args with
    | some vs => match (Builtin.max_ ts ty vs.toArray).val? P with
      | some v => litE v
      | none => none
    | none => none
  | .min, _, _ => match litVals args with
    | some vs => match (Builtin.min_ ts ty vs.toArray).val? P with
      | some v => litE v
      | none => none
    | none => none
  | .complex, _, _ => match litVals args with
    | some vs => match (Builtin.complex_ ts ty vs.toArray).val? P with
      | some v => litE v
      | none => none
    | none => none
  | .real, _, _ => match litVals args with
    | some vs => match (Builtin.real_ ts ty vs.toArray).val? P with
      | some v => litE v
      | none => none
    | none => none
  | .imag, _, _ => match litVals args with
    | some vs => match (Builtin.imag_ ts ty vs.toArray).val? P with
      | some v => litE v
      | none => none
    | none => none
  | _, _, _ => none

/-! ### One operation -/
inductive Prep where
  | eff (e : Eff)
  | call (f : Nat) (args : List AV)

noncomputable def effO : Option Eff → Option Prep
  | some e => some (.eff e)
  | none => none

noncomputable def convE (P : Program) (src dst : TypeId) (x : AV) (σ : Store) : Option Eff := match x with
  | .pv (.lit v) => match (convert src dst v).val? P with
    | some u => litE u
    | none => none
  | y => match P.underlying src, P.underlying dst, elems σ y with
    | some (.slice e), some .string, some (es, ks) => match P.underlying e, toBytes es with
      | some (.int .u8), some bs => some ⟨.pv (.lit (.string ⟨bs.toArray⟩)), [], ks⟩
      | _, _ => none
    | _, _, _ => none

/-- A value of an interface. -/
noncomputable def ifaceE (P : Program) (t : TypeId) (x : AV) : Option Eff := match P.underlying t, x with
  | some (.interface _), _ => none
  | some _, .pv p => valE (.pv (.iface t p))
  | _, _ => none
/-- The methods that are wanted, and aren't there. -/
noncomputable def lacks (want : Array (String × TypeId)) (got : Array Method) : Bool := (want.toList.filter fun x => !got.any fun m => m.name == x.1 && m.sig == x.2).isEmpty
noncomputable def assertE (P : Program) (x : AV) (asserted : TypeId) (ok : Bool) : Option Eff := match P.underlying asserted, x, ok, zr P asserted with
  | some (.interface want), .pv (.iface t p), true, some z => match P.info? t with
    | some i => if lacks want i.methods then valE (.pv (.tuple [.iface t p, .lit (.bool true)])) else valE (.pv (.tuple [z, .lit (.bool false)]))
    | none => none
  | _, _, _, _ => none
/-- The function behind a method of an interface's value: one of the value's own, on the value itself. -/
noncomputable def methodE (P : Program) (x : AV) (name : String) : Option (Nat × PV) := match x with
  | .pv (.iface t p) => match P.info? t, P.underlying t with
    | _, some (.pointer _) => none
    | some i, some _ => match i.methods.find? (·.name == name) with
      | some m => match m.path.toList, m.func with
        | [], some (f, false) => some (f, p)
        | _, _ => none
      | none => none
    | _, _ => none
  | _ => none

/-- A row of bytes of one's own, given to its own type: it is marked, and written no more. -/
noncomputable def markE (P : Program) (src dst : TypeId) (x : AV) (σ : Store) : Option Eff := match x, P.underlying src with
  | .ms k _ _ true, some (.slice el) => match lk σ k, P.underlying el with
    | some (.row true _ 1 es), some (.int .u8) => if src = dst ∧ es.isEmpty = false then some ⟨.pv (.sl false es), [(k, .stale)], [k]⟩ else none
    | _, _ => none
  | _, _ => none
noncomputable def convZ (P : Program) (src dst : TypeId) (x : AV) (σ : Store) : Option Eff := match convE P src dst x σ with
  | some e => some e
  | none => markE P src dst x σ

/-- The next sign of a text. -/
noncomputable def nextE (b : Bool) (x : AV) (σ : Store) : Option Eff := match b, x with
  | true, .bp k 0 => match lk σ k with
    | some (.it true s pos) => if pos < s.size then some ⟨.pv (.tuple [.lit (.bool true), .lit (.int .i64 pos), .lit (.int .i32 (Utf8.decode s pos).1)]), [(k, .it true s (pos + (Utf8.decode s pos).2))], [k]⟩
      else some ⟨.pv (.tuple [.lit (.bool false)]), [], [k]⟩
    | _ => none
  | _, _ => none
/-- What an operation does. ev: what operands stand for; k: the name of what it makes. -/
noncomputable def prepZ (P : Program) (z : Bool) (ev : Operand → AV) (σ : Store) (k : Nat) (o : Oper) : Option Prep := match o.op with
  | .move x | .assign x => effO (valE (ev x))
  | .pick c a b => match ev c with
    | .pv (.lit (.bool t)) => effO (valE (if t then ev a else ev b))
    | _ => none
  | .alloc e => match sz P e, zr P e with
    | some n, some y => if y.cells.length = n ∧ 0 < n then effO (allocE (z && isArrT P e) e n y k σ) else none
    | _, _ => none
  | .box e x => match sz P e with
    | some n => if (ev x).cells.length = n ∧ (ev x).cells.all AV.isCell = true then effO (newE k σ (.bp k 0) (.box true (ev x).cells) [] []) else none
    | none => none
  | .build t parts => effO (buildE P t (parts.toList.map fun p => (p.1, ev p.2)))
  | .buildSlice t n parts => effO (buildSliceE P t n (parts.toList.map fun p => (p.1, ev p.2)) k σ)
  | .insert t m key x | .mapUpdate t m key x => effO (insertZ P z t (ev m) (ev key) (ev x) σ)
  | .load t a => effO (loadE P t σ (ev a))
  | .store t a x => effO (storeZ P z t σ (ev a) (ev x))
  | .nilCheck x => match ev x with
    | .bp k off => effO (valE (.bp k off))
    | .rp k i off => effO (valE (.rp k i off))
    | .gp g off => effO (valE (.gp g off))
    | .pv (.ip cs off) => effO (valE (.pv (.ip cs off)))
    | .pv (.fn (.func f) a c) => effO (valE (.pv (.fn (.func f) a c)))
    | .fn (.func f) a c => effO (valE (.fn (.func f) a c))
    | _ => none
  | .binOp op t x y _ => match ev x, ev y with
    | .pv (.lit a), .pv (.lit b) => match (do eqGuard op t x y a b; binOp op t a b : Sem Value).val? P with
      | some v => effO (litE v)
      | none => none
    | .pv (.sl _ es), .pv (.sl _ _) => match P.underlying t, y with
      | some (.slice _), .const (.slice none _ _) => match op with
        | .eql => effO (valE (.nilq false es))
        | .neq => effO (valE (.nilq true es))
        | _ => none
      | _, _ => none
    | .pv (.agg cs), .pv (.agg ds) => effO (eqE P op t cs ds)
    | _, _ => none
  | .unOp op _ x => match ev x with
    | .pv (.lit a) => match (Op.unary op a).val? P with
      | some v => effO (litE v)
      | none => none
    | _ => none
  | .convert src dst x => effO (convZ P src dst (ev x) σ)
  | .makeFunc f first caps => effO (valE (AV.mkFn f (first.toList.map ev) (caps.toList.map ev)))
  | .makeMap t r => match P.underlying t, r.map ev with
    | some (.map _ _), none => effO (newE k σ (.mm k) (.map true []) [] [])
    | some (.map _ _), some x => match asI x with
      | some _ => effO (newE k σ (.mm k) (.map true []) [] [])
      | none => none
    | _, _ => none
  | .makeSlice t l c => effO (makeSliceE P t (ev l) (ev c) k σ)
  | .slice t x lo hi mx => match P.underlying t with
    | some (.slice e) => match sz P e with
      | some n => effO (sliceK z k n σ (ev x) (lo.map ev) (hi.map ev) (mx.map ev))
      | none => none
    | some .string => match ev x with
      | .pv (.lit (.string s)) => effO (sliceS s (lo.map ev) (hi.map ev) (mx.map ev))
      | _ => none
    | some (.array n e) => match z, lo.map ev, hi.map ev, mx.map ev with
      | true, none, none, none => effO (sliceArr P n e (ev x) σ)
      | _, _, _, _ => none
    | _ => none
  | .fieldAddr t x f => match P.underlying t with
    | some (.struct fs) => match fs[f]? with
      | some fd => match sz P fd.type with
        | some (_ + 1) => match addrAdd fd.offset (ev x) with
          | some y => effO (valE y)
          | none => none
        | _ => none
      | none => none
    | _ => none
  | .field t x f => match P.underlying t, (ev x).aggCells with
    | some (.struct fs), some cs => match fs[f]? with
      | some fd => effO (partE P fd.type cs fd.offset)
      | none => none
    | _, _ => none
  | .indexAddr t x ix => effO (indexAddrZ P (z && !isSliceT P t) t (ev x) (ev ix) σ)
  | .index t x ix => effO (indexE P t (ev x) (ev ix))
  | .lookup t x ix ok => effO (lookupZ P z t (ev x) (ev ix) ok σ)
  | .makeInterface t x => effO (ifaceE P t (ev x))
  | .typeAssert x _ t ok => effO (assertE P (ev x) t ok)
  | .extract x i => match ev x with
    | .pv (.tuple vs) => match vs[i]? with
      | some p => effO (valE (.pv p))
      | none => none
    | .tuple vs => match vs[i]? with
      | some p => effO (valE p)
      | none => none
    | _ => none
  | .call c => match c.callee with
    | .builtin b => effO (builtinE P b c.argTypes o.type (c.args.toList.map ev) k σ)
    | .value g => match ev g with
      | .pv (.fn (.func f) a cs) => some (.call f (a.map .pv ++ c.args.toList.map ev ++ cs.map .pv))
      | .fn (.func f) a cs => some (.call f (a ++ c.args.toList.map ev ++ cs))
      | _ => none
    | .invoke r name => match methodE P (ev r) name with
      | some (f, p) => some (.call f (.pv p :: c.args.toList.map ev))
      | none => none
  | .range t x => match P.underlying t, ev x with
    | some .string, .pv (.lit (.string s)) => effO (newE k σ (.bp k 0) (.it true s 0) [] [])
    | _, _ => none
  | .next x b => effO (nextE b (ev x) σ)
  | .sliceToArrayPointer t x => match P.underlying t, ev x with
    | some (.array n _), .pv (.sl _ es) => if n ≤ es.length ∧ 0 < n ∧ es.all PV.isCell = true then effO (valE (.pv (.ip es 0))) else none
    | _, _ => none
  | _ => none

noncomputable abbrev prep (P : Program) (ev : Operand → AV) (σ : Store) (k : Nat) (o : Oper) : Option Prep := prepZ P false ev σ k o

/-- A slice, handed on as it stands: what it names is written no more. -/
noncomputable def isSl (o : Oper) : Bool := match o.op with
  | .slice _ _ _ _ _ => true
  | .build _ _ => true
  | _ => false
noncomputable def frzE (b : Bool) (σ : Store) (e : Eff) : Option Eff := match b with
  | false => some e
  | true => match e.mem, resolve σ deep e.val with
    | [], some (p, ks) => some ⟨.pv p, freezeE σ ks, ks ++ e.reads⟩
    | _, _ => none

/-! ### What a call gives back -/
inductive RV where
  | pv (p : PV)
  | fresh (e : TypeId) (sz : Nat) (es : List PV)

noncomputable def applyMem (σ : Store) : List (Nat × Blk) → Store
  | [] => σ
  | (k, b) :: r => applyMem (ins k b σ) r

/-- A row that is one's own, whole. -/
noncomputable def isRow (σ : Store) (x : AV) : Option (Nat × TypeId × Nat × List PV) := match x with
  | .ms k off len own => match lk σ k with
    | some (.row true e s es) => if own then some (k, e, s, es) else none
    | _ => none
  | _ => none

/-- Results, one behind the other: a row that is still one's own is handed on as such; all else as it stands. -/
noncomputable def finRV : Store → List AV → Option (List RV × Store)
  | σ, [] => some ([], σ)
  | σ, x :: r => match isRow σ x with
    | some (k, e, s, es) => match finRV (ins k .stale σ) r with
      | some (rs, σ') => some (.fresh e s es :: rs, σ')
      | none => none
    | none => match resolve σ deep x with
      | some (p, ks) => match finRV (applyMem σ (freezeE σ ks)) r with
        | some (rs, σ') => some (.pv p :: rs, σ')
        | none => none
      | none => none

noncomputable def results? (P : Program) (env : Env) (σ : Store) : List ResultVar → Option (List AV)
  | [] => some []
  | .tmp t :: r => match results? P env σ r with
    | some xs => some ((lk env t).getD .bot :: xs)
    | none => none
  | .cell a t :: r => match loadE P t σ ((lk env a).getD .bot), results? P env σ r with
    | some e, some xs => some (e.val :: xs)
    | _, _ => none

/-- What the caller has of them: names of its own for rows. -/
noncomputable def giveBack (k : Nat) (σ : Store) : List RV → Option (List AV × List (Nat × Blk))
  | [] => some ([], [])
  | .pv p :: r => match giveBack (k + 1) σ r with
    | some (xs, m) => some (.pv p :: xs, m)
    | none => none
  | .fresh e s es :: r => match lk σ k, giveBack (k + 1) σ r with
    | none, some (xs, m) => some (.ms k 0 es.length true :: xs, (k, .row true e s es) :: m)
    | _, _ => none

/-- Does it hold no slice, address, function or map? -/
noncomputable def PV.scalar : PV → Bool
  | .lit _ => true
  | _ => false
noncomputable def RV.scalar : RV → Bool
  | .pv p => p.scalar
  | .fresh _ _ _ => false

noncomputable def single : List AV → AV
  | [x] => x
  | xs => AV.mkTuple xs

noncomputable def keysFrom (k : Nat) : Nat → List Nat
  | 0 => []
  | n + 1 => k :: keysFrom (k + 1) n

noncomputable def callE (k : Nat) (σ : Store) (ks : List Nat) (rs : List RV) : Option Eff := match giveBack k σ rs with
  | some (xs, m) => some ⟨single xs, (if rs.all RV.scalar then [] else freezeE σ ks) ++ m, keysFrom k rs.length ++ ks⟩
  | none => none

/-! ### Heads of loops -/
noncomputable def canon (c0 t : Nat) : Nat := c0 * 65536 + t * 8 + 7

noncomputable def restrict (env : Env) : List Nat → Env
  | [] => []
  | t :: ts => match lk env t with
    | some x => ins t x (restrict env ts)
    | none => restrict env ts

/-- Rows that slots hold as their own are taken out: slot, element, size, elements. -/
noncomputable def takeRows : List (Nat × TypeId × Nat) → Env → Store → List (Nat × TypeId × Nat × List PV) × Env × Store
  | [], env, σ => ([], env, σ)
  | r :: rs, env, σ => match isRow σ ((lk env r.1).getD .bot) with
    | some (k, e, s, es) => ((r.1, e, s, es) :: (takeRows rs (ins r.1 .bot env) (ins k .stale σ)).1, (takeRows rs (ins r.1 .bot env) (ins k .stale σ)).2)
    | none => match lk env r.1 with
      | some (.pv (.sl true [])) => ((r.1, r.2.1, r.2.2, []) :: (takeRows rs (ins r.1 .bot env) σ).1, (takeRows rs (ins r.1 .bot env) σ).2)
      | _ => takeRows rs env σ

/-- .. and laid back under names of the head's own. -/
noncomputable def giveRows (c0 : Nat) : List (Nat × TypeId × Nat × List PV) → Env → Store → Env × Store
  | [], env, σ => (env, σ)
  | (t, e, s, es) :: r, env, σ => match lk σ (canon c0 t) with
    | none => giveRows c0 r (ins t (.ms (canon c0 t) 0 es.length true) env) (ins (canon c0 t) (.row true e s es) σ)
    | some _ => giveRows c0 r env σ

/-- A row that a box's cell holds, under another name. -/
noncomputable def renCell (k j kn : Nat) (e : TypeId) (s : Nat) (σ : Store) : Store := match lk σ kn, lk σ k with
  | none, some (.box live cs) => match cs[j]? with
    | some x => match isRow σ x with
      | some (r, e', s', es) => if r = k then σ else ins k (.box live (cs.set j (.ms kn 0 es.length true))) (ins kn (.row true e' s' es) (ins r .stale σ))
      | none => match x with
        | .pv (.sl true []) => ins k (.box live (cs.set j (.ms kn 0 0 true))) (ins kn (.row true e s []) σ)
        | _ => σ
    | none => σ
  | _, _ => σ
noncomputable def renCells : List (Nat × Nat × Nat × TypeId × Nat) → Store → Store
  | [], σ => σ
  | (k, j, kn, e, s) :: r, σ => renCells r (renCell k j kn e s σ)

noncomputable def AV.okRefs (keep : Nat → Bool) : Nat → AV → Bool
  | 0, _ => false
  | n + 1, x => match x with
    | .ms k _ _ _ | .rp k _ _ | .bp k _ | .mm k | .yl k => keep k
    | .agg cs | .tuple cs => cs.all (AV.okRefs keep n)
    | .fn _ a c => a.all (AV.okRefs keep n) && c.all (AV.okRefs keep n)
    | _ => true

/-- Without the names that go. -/
noncomputable def scrub (keep : Nat → Bool) (σ : Store) (x : AV) : AV :=
  if x.okRefs keep deep then x else match resolve σ deep x with
    | some (p, ks) => if ks.all (fun k => !keep k) then .pv p else .bot
    | none => .bot
noncomputable def Blk.scrub (keep : Nat → Bool) (σ : Store) : Blk → Blk
  | .box l cs => .box l (cs.map (Mir.scrub keep σ))
  | .fmap l es => .fmap l (es.map fun e => (e.1, Mir.scrub keep σ e.2))
  | b => b

noncomputable def dropEnv (keep : Nat → Bool) (σ : Store) (env : Env) : Env := env.map fun x => (x.1, scrub keep σ x.2)
noncomputable def dropSto (keep : Nat → Bool) (σ : Store) : Store := (σ.filter fun x => keep x.1).map fun x => (x.1, x.2.scrub keep σ)

noncomputable def firstRegion : Code → Nat
  | .region id _ _ => id
  | .seq a b => match a with
    | .label _ => firstRegion b
    | .skip => firstRegion b
    | _ => firstRegion a
  | .block _ c | .loop c | .scope c => firstRegion c
  | _ => 0

noncomputable def keepBelow (clk : Nat) (k : Nat) : Bool := decide (k < clk * 65536)

noncomputable def norm (keep : Nat → Bool) (L : List Nat) (R : List (Nat × TypeId × Nat)) (c0 : Nat) (s : St) : St :=
  let m := takeRows R (restrict s.env L) s.sto
  let g := giveRows c0 m.1 (dropEnv keep m.2.2 m.2.1) (dropSto keep m.2.2)
  { env := g.1, sto := g.2, clk := c0, nt := s.nt }

/-- An operation that is no 'defer'. -/
noncomputable def _root_.Go.Oper.plainOp (o : Oper) : Bool := match o.op with
  | .defer _ => false
  | _ => true
/-- Regions that draw their order, all in a form that serves. -/
noncomputable def okCode : Code → Bool
  | .region _ ops dr => ops.toList.all (fun o => o.plainOp) && (!dr || Region.lexB .any ops)
  | .seq a b => okCode a && okCode b
  | .cond _ a b => okCode a && okCode b
  | .block _ c | .loop c | .scope c => okCode c
  | .rangeFunc _ _ a b => okCode a && okCode b
  | _ => true

/-! ### The machine -/
/-- How code is left. -/
inductive Jmp where
  | fin
  | ret
  | exit (id : Nat)
  | goto (l : Nat)
noncomputable def Jmp.pend : Jmp → Option Code
  | .fin => none
  | .ret => some .ret
  | .exit id => some (.exit id)
  | .goto l => some (.goto l)
inductive It where
  | code (c : Code)
  | blk (id : Nat)
  | loop (c : Code) (c0 : Nat)
  | hook (h : St → Prop)
  | scp (l : Nat) (h : St → Prop)
  | ops (all rest : List Oper) (drawn : Bool) (acc : List (List Nat × List Nat))

noncomputable def exitA (id : Nat) : List It → Option (List It)
  | [] => none
  | .blk id' :: k => if id' = id then some k else exitA id k
  | _ :: k => exitA id k

/-- Where a jump goes: what must hold there. -/
noncomputable def gotoA (l : Nat) : List It → Option (St → Prop)
  | [] => none
  | .scp l' h :: k => match Nat.beq l' l with
    | true => some h
    | false => none
  | _ :: k => gotoA l k

/-- Is an operation to be carried out? -/
noncomputable def wantedA (all : List Oper) (env : Env) (o : Oper) : Option Bool := match o.guard with
  | none => some true
  | some (j, want) => match all[j]? with
    | some g => match g.dst with
      | some t => match lk env t with
        | some (.pv (.lit (.bool b))) => some (b == want)
        | some (.pv (.tuple [])) => some false
        | _ => none
      | none => some false
    | none => some false

noncomputable def putE (dst : Option Nat) (nt : Nat) (x : AV) (env : Env) : Option Env := match dst with
  | none => some env
  | some d => if d < nt then some (ins d x env) else none

noncomputable def disj (a b : List Nat) : Bool := a.all fun x => !b.contains x

/-- May an operation stand ahead of, or behind, all that it does not wait for? -/
noncomputable def isIx (o : Oper) : Bool := match o.op with
  | .indexAddr _ _ _ => true
  | _ => false
noncomputable def isSt (o : Oper) : Bool := match o.op with
  | .store _ _ _ => true
  | _ => false
/-- An address of a place, and a store: in whatever order. -/
noncomputable def pairOk (a : Option Oper) (b : Oper) : Bool := match a with
  | some a => (isIx a && isSt b) || (isSt a && isIx b)
  | none => false
noncomputable def okD (all : List Oper) (drawn : Bool) (o : Oper) (rd wr : List Nat) : Nat → List (List Nat × List Nat) → Bool
  | _, [] => true
  | i, (rd', wr') :: r => (!drawn || o.after.any (fun e => e.on == i && Region.binds .any e) || (disj wr (rd' ++ wr') && disj wr' rd) || pairOk all[i]? o) && okD all drawn o rd wr (i + 1) r

noncomputable def keysOf (m : List (Nat × Blk)) : List Nat := m.map (·.1)

noncomputable def envOf : Nat → List AV → Env
  | _, [] => []
  | i, x :: r => (i, x) :: envOf (i + 1) r

noncomputable def keyOf (clk : Nat) (dst : Option Nat) : Nat := clk * 65536 + dst.getD 8191 * 8

end Go.Mir
