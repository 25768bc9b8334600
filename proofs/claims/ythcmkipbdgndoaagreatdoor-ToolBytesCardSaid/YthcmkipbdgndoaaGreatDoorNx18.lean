/- The machine with answers: what must be shown of a function, by reduction alone (definitions; no condition). -/
import Derived.Test.YthcmkipbdgndoaaGreatDoorNx17
set_option linter.all false
set_option linter.unusedVariables false
set_option linter.unusedSimpArgs false
set_option linter.unnecessarySimpa false
namespace Go.Mir
open Go Go.RowKit

/-- Cells that are told at a join or a loop's head. -/
inductive HK where
  | int (k : IntKind)
  | bool
  | str
  | flt (k : FloatKind)
  | sl
  | pv
noncomputable def HK.T : HK → Type
  | .int _ => Int
  | .bool => Bool
  | .str => ByteArray
  | .flt _ => Nat
  | .sl => List PV
  | .pv => PV
noncomputable def HK.mk : (h : HK) → h.T → PV
  | .int k, n => .lit (.int k n)
  | .bool, b => .lit (.bool b)
  | .str, s => .lit (.string s)
  | .flt k, n => .lit (.float k n)
  | .sl, es => .sl false es
  | .pv, p => p
noncomputable def HK.get : (h : HK) → PV → Option h.T
  | .int k, .lit (.int k' n) => if k' = k then some n else none
  | .bool, .lit (.bool b) => some b
  | .str, .lit (.string s) => some s
  | .flt k, .lit (.float k' n) => if k' = k then some n else none
  | .sl, .sl _ es => some es
  | .pv, p => some p
  | _, _ => none
noncomputable def HT : List HK → Type
  | [] => Unit
  | h :: r => h.T × HT r
noncomputable def HT.mk : (hs : List HK) → HT hs → List PV
  | [], _ => []
  | h :: r, v => h.mk v.1 :: HT.mk r v.2
noncomputable def HT.get : (hs : List HK) → List PV → Option (HT hs)
  | [], [] => some ()
  | h :: r, p :: ps => match h.get p, HT.get r ps with
    | some x, some y => some (x, y)
    | _, _ => none
  | _, _ => none

/-- Cells of a box: told, or as they were. -/
inductive CH where
  | h (h : HK)
  | k (x : AV)
  | r (kn : Nat) (e : TypeId) (sz : Nat)
noncomputable def CT : List CH → Type
  | [] => Unit
  | .h h :: r => h.T × CT r
  | .k _ :: r => CT r
  | .r _ _ _ :: r => List PV × CT r
noncomputable def CT.mk : (cs : List CH) → CT cs → List AV
  | [], _ => []
  | .h h :: r, v => .pv (h.mk v.1) :: CT.mk r v.2
  | .k x :: r, v => x :: CT.mk r v
  | .r kn _ _ :: r, v => .ms kn 0 v.1.length true :: CT.mk r v.2
/-- The rows that cells hold. -/
noncomputable def CT.rows : (cs : List CH) → CT cs → Store → Store
  | [], _, σ => σ
  | .h _ :: r, v, σ => CT.rows r v.2 σ
  | .k _ :: r, v, σ => CT.rows r v σ
  | .r kn e sz :: r, v, σ => ins kn (.row true e sz v.1) (CT.rows r v.2 σ)
noncomputable def CT.get (σ : Store) : (cs : List CH) → List AV → Option (List Prop × CT cs)
  | [], [] => some ([], ())
  | .h h :: r, .pv p :: xs => match h.get p, CT.get σ r xs with
    | some x, some (ps, y) => some (ps, (x, y))
    | _, _ => none
  | .k x :: r, y :: xs => match CT.get σ r xs with
    | some (ps, z) => some ((y = x) :: ps, z)
    | none => none
  | .r kn e sz :: r, .ms k 0 _ true :: xs => if k = kn then match lk σ kn with
    | some (.row true e' sz' es) => if e' = e ∧ sz' = sz then match CT.get σ r xs with
      | some (ps, y) => some (ps, (es, y))
      | none => none
      else none
    | _ => none
    else none
  | _, _ => none
noncomputable def CH.rowNames : List CH → List Nat
  | [] => []
  | .r kn _ _ :: l => kn :: CH.rowNames l
  | _ :: l => CH.rowNames l
noncomputable def CH.rens (k : Nat) : Nat → List CH → List (Nat × Nat × Nat × TypeId × Nat)
  | _, [] => []
  | j, .r kn e sz :: l => (k, j, kn, e, sz) :: CH.rens k (j + 1) l
  | j, _ :: l => CH.rens k (j + 1) l

/-- What stands where, at a join or a loop's head. -/
inductive SI where
  | c (t : Nat) (h : HK)
  | a (t : Nat) (hs : List HK)
  | p (t off : Nat) (hs : List HK)
  | r (t : Nat) (e : TypeId) (sz : Nat)
  | k (t : Nat) (x : AV)
  | box (k : Nat) (live : Bool) (cs : List CH)
  | lp (k : Nat) (busy : Bool)
  | it (k : Nat)
  | w (k : Nat) (e : TypeId) (sz : Nat) (ts : List Nat)
noncomputable def VT : List SI → Type
  | [] => Unit
  | .c _ h :: r => h.T × VT r
  | .a _ hs :: r => HT hs × VT r
  | .p _ _ hs :: r => HT hs × VT r
  | .r _ _ _ :: r => List PV × VT r
  | .k _ _ :: r => VT r
  | .box _ _ cs :: r => CT cs × VT r
  | .lp _ _ :: r => VT r
  | .it _ :: r => (ByteArray × Nat) × VT r
  | .w _ _ _ _ :: r => List PV × VT r
/-- Places where a row stands that has a name of its own. -/
noncomputable def insW (k n : Nat) : List Nat → Env → Env
  | [], env => env
  | t :: ts, env => ins t (.ms k 0 n true) (insW k n ts env)
noncomputable def instE (c0 : Nat) : (l : List SI) → VT l → Env
  | [], _ => []
  | .c t h :: r, v => ins t (.pv (h.mk v.1)) (instE c0 r v.2)
  | .a t hs :: r, v => ins t (.pv (.agg (HT.mk hs v.1))) (instE c0 r v.2)
  | .p t off hs :: r, v => ins t (.pv (.ip (HT.mk hs v.1) off)) (instE c0 r v.2)
  | .r t _ _ :: r, v => ins t (.ms (canon c0 t) 0 v.1.length true) (instE c0 r v.2)
  | .k t x :: r, v => ins t x (instE c0 r v)
  | .box _ _ _ :: r, v => instE c0 r v.2
  | .lp _ _ :: r, v => instE c0 r v
  | .it _ :: r, v => instE c0 r v.2
  | .w k _ _ ts :: r, v => insW k v.1.length ts (instE c0 r v.2)
noncomputable def instS (c0 : Nat) : (l : List SI) → VT l → Store
  | [], _ => []
  | .c _ _ :: r, v => instS c0 r v.2
  | .a _ _ :: r, v => instS c0 r v.2
  | .p _ _ _ :: r, v => instS c0 r v.2
  | .r t e sz :: r, v => ins (canon c0 t) (.row true e sz v.1) (instS c0 r v.2)
  | .k _ _ :: r, v => instS c0 r v
  | .box k live cs :: r, v => ins k (.box live (CT.mk cs v.1)) (CT.rows cs v.1 (instS c0 r v.2))
  | .lp k b :: r, v => ins k (.lp true b none) (instS c0 r v)
  | .it k :: r, v => ins k (.it true v.1.1 v.1.2) (instS c0 r v.2)
  | .w k e sz _ :: r, v => ins k (.row true e sz v.1) (instS c0 r v.2)
noncomputable def isMs (env : Env) (k t : Nat) : Bool := match lk env t with
  | some (.ms k' 0 _ true) => Nat.beq k' k
  | _ => false
noncomputable def getV (c0 : Nat) (env : Env) (σ : Store) : (l : List SI) → Option (List Prop × VT l)
  | [] => some ([], ())
  | .c t h :: r => match lk env t with
    | some (.pv p) => match h.get p, getV c0 env σ r with
      | some x, some (ps, y) => some (ps, (x, y))
      | _, _ => none
    | _ => none
  | .a t hs :: r => match lk env t with
    | some (.pv (.agg qs)) => match HT.get hs qs, getV c0 env σ r with
      | some x, some (ps, y) => some (ps, (x, y))
      | _, _ => none
    | _ => none
  | .p t off hs :: r => match lk env t with
    | some (.pv (.ip qs off')) => if off' = off then match HT.get hs qs, getV c0 env σ r with
      | some x, some (ps, y) => some (ps, (x, y))
      | _, _ => none
      else none
    | _ => none
  | .r t e sz :: r => match lk env t with
    | some (.ms k 0 _ true) => if k = canon c0 t then match lk σ k with
      | some (.row true e' sz' es) => if e' = e ∧ sz' = sz then match getV c0 env σ r with
        | some (ps, y) => some (ps, (es, y))
        | none => none
        else none
      | _ => none
      else none
    | _ => none
  | .k t x :: r => match lk env t, getV c0 env σ r with
    | some y, some (ps, z) => some ((y = x) :: ps, z)
    | _, _ => none
  | .box k live cs :: r => match lk σ k with
    | some (.box live' xs) => if live' = live then match CT.get σ cs xs, getV c0 env σ r with
        | some (ps, x), some (qs, y) => some (ps ++ qs, (x, y))
        | _, _ => none
      else none
    | _ => none
  | .lp k b :: r => match lk σ k with
    | some (.lp true b' none) => if b' = b then getV c0 env σ r else none
    | _ => none
  | .it k :: r => match lk σ k with
    | some (.it true s pos) => match getV c0 env σ r with
      | some (ps, y) => some (ps, ((s, pos), y))
      | none => none
    | _ => none
  | .w k e sz ts :: r => match lk σ k with
    | some (.row true e' sz' es) => if e' = e ∧ sz' = sz ∧ ts.all (isMs env k) = true then match getV c0 env σ r with
      | some (ps, y) => some (ps, (es, y))
      | none => none
      else none
    | _ => none
noncomputable def listed (c0 : Nat) (k : Nat) : List SI → Bool
  | [] => false
  | .r t _ _ :: r => k == canon c0 t || listed c0 k r
  | .box k' _ cs :: r => k == k' || (CH.rowNames cs).contains k || listed c0 k r
  | .lp k' _ :: r => k == k' || listed c0 k r
  | .it k' :: r => k == k' || listed c0 k r
  | .w k' _ _ _ :: r => k == k' || listed c0 k r
  | _ :: r => listed c0 k r
noncomputable def slotsOf : List SI → List Nat
  | [] => []
  | .c t _ :: r | .a t _ :: r | .p t _ _ :: r | .r t _ _ :: r | .k t _ :: r => t :: slotsOf r
  | .box _ _ _ :: r => slotsOf r
  | .lp _ _ :: r => slotsOf r
  | .it _ :: r => slotsOf r
  | .w _ _ _ ts :: r => ts ++ slotsOf r
noncomputable def rowsOf : List SI → List (Nat × TypeId × Nat)
  | [] => []
  | .r t e sz :: r => (t, e, sz) :: rowsOf r
  | _ :: r => rowsOf r
noncomputable def instSt (c0 nt : Nat) (l : List SI) (v : VT l) : St := ⟨instE c0 l v, instS c0 l v, c0, nt⟩
/-- Names that stay. -/
noncomputable def keptOf : List SI → List Nat
  | [] => []
  | .box k _ cs :: r => k :: (CH.rowNames cs ++ keptOf r)
  | .lp k _ :: r => k :: keptOf r
  | .it k :: r => k :: keptOf r
  | .w k _ _ _ :: r => k :: keptOf r
  | _ :: r => keptOf r
noncomputable def rensOf : List SI → List (Nat × Nat × Nat × TypeId × Nat)
  | [] => []
  | .box k _ cs :: r => CH.rens k 0 cs ++ rensOf r
  | _ :: r => rensOf r
/-- Names that rows in cells shall bear, and that have gone: without them. -/
noncomputable def staleT (B : List Nat) (rs : List (Nat × Nat × Nat × TypeId × Nat)) (σ : Store) (k : Nat) : Bool := !B.contains k && rs.any (fun r => Nat.beq r.2.2.1 k) && match lk σ k with
  | some .stale => true
  | _ => false
noncomputable def anyStale (B : List Nat) (rs : List (Nat × Nat × Nat × TypeId × Nat)) (σ : Store) : Bool := rs.any fun r => staleT B rs σ r.2.2.1
noncomputable def pre (B : List Nat) (c0 : Nat) (l : List SI) (s : St) : St := match anyStale B (rensOf l) s.sto with
  | false => s
  | true => norm (fun k => !staleT B (rensOf l) s.sto k) (slotsOf l) [] c0 s
/-- What a state is, told by the places of l. B: names that must stay. -/
noncomputable def absorb0 (c0 : Nat) (l : List SI) (s : St) : Option (List Prop × VT l) :=
  if (norm (fun k => (keptOf l).contains k) (slotsOf l) (rowsOf l) c0 { s with sto := renCells (rensOf l) s.sto }).sto.all (fun x => listed c0 x.1 l) then getV c0 (norm (fun k => (keptOf l).contains k) (slotsOf l) (rowsOf l) c0 { s with sto := renCells (rensOf l) s.sto }).env (norm (fun k => (keptOf l).contains k) (slotsOf l) (rowsOf l) c0 { s with sto := renCells (rensOf l) s.sto }).sto l else none
noncomputable def absorb (B : List Nat) (c0 nt : Nat) (l : List SI) (s : St) : Option (List Prop × VT l) :=
  if s.nt = nt then
    if B.all (fun k => (keptOf l).contains k) then absorb0 c0 l (pre B c0 l s)
    else none
  else none

/-- Shapes of results. -/
inductive Pt : Type 1 where
  | int (k : IntKind)
  | bool
  | str
  | flt (k : FloatKind)
  | sl
  | ty (α : Type) (e : α → PV)
  | cst (p : PV)
noncomputable def Pt.ex : Pt → (PV → Prop) → Prop
  | .int k, K => ∃ n : Int, K (.lit (.int k n))
  | .bool, K => ∃ b : Bool, K (.lit (.bool b))
  | .str, K => ∃ s : ByteArray, K (.lit (.string s))
  | .flt k, K => ∃ n : Nat, K (.lit (.float k n))
  | .sl, K => ∃ es : List PV, K (.sl false es)
  | .ty α e, K => ∃ a : α, K (e a)
  | .cst p, K => K p
inductive RP : Type 1 where
  | pv (p : Pt)
  | row (e : TypeId) (sz : Nat)
noncomputable def exRs : List RP → (List RV → Prop) → Prop
  | [], K => K []
  | .pv p :: r, K => p.ex fun x => exRs r fun rs => K (.pv x :: rs)
  | .row e sz :: r, K => ∃ es : List PV, exRs r fun rs => K (.fresh e sz es :: rs)

/-- What a box that is lent holds behind the call: some α. -/
inductive BQ : Type 1 where
  | ty (α : Type) (e : α → List PV)
noncomputable def exBs : List BQ → (List (List PV) → Prop) → Prop
  | [], K => K []
  | .ty α e :: r, K => ∃ a : α, exBs r fun cs => K (e a :: cs)

/-- Struct values, without what is known of room behind slices. -/
noncomputable def PV.dull1 : PV → PV
  | .sl _ es => .sl false es
  | p => p
noncomputable def PV.dull : PV → PV
  | .agg cs => .agg (cs.map PV.dull1)
  | p => p.dull1
noncomputable def AV.dull1 : AV → AV
  | .pv p => .pv p.dull1
  | x => x
noncomputable def AV.dull : AV → AV
  | .pv p => .pv p.dull
  | .agg cs => .agg (cs.map AV.dull1)
  | x => x

/-- Answers. -/
inductive Q : Type 1 where
  | off
  | fork (l r : List (Nat × Q))
  | dull
  | wk (y : AV)
  | call (rs : List RP)
  | callf (rs : List RP) (l r : List (Nat × Q))
  | callb (rs : List RP) (bset : List Nat) (cs : List BQ)
  | callbf (rs : List RP) (bset : List Nat) (cs : List BQ) (l r : List (Nat × Q))
  | ix (α : Type) (e : α → PV)
  | ixr
  | ld (α : Type) (e : α → PV)
  | st (α : Type) (e : α → PV)
  | slc
  | slr
  | slf
  | clr
  | srt
  | trn
  | frz
  | app (c1 c2 : Bool)
  | appm (c2 : Bool)
  | mk
  | appz
  | look (ovs : List (List (Nat × Q)))
  | div
  | b2s
  | eff (e : Eff)
  | efn (F : (Operand → AV) → Store → Option Eff)
  | nxt (l r : List (Nat × Q))
  | lens (ts : List Nat)
  | join (l : List SI)
  | scope (lab : Nat) (l : List SI)
  | loop (l : List SI)
  | unroll
  | inl (fn : Func) (B : List Nat) (ans : List (Nat × Q))
  | inlj (fn : Func) (B : List Nat) (ans : List (Nat × Q)) (l : List SI)
  | rng (fn : Func) (B : List Nat) (ans : List (Nat × Q))
  | yld (B : List Nat) (ans : List (Nat × Q))
noncomputable def lkQ : List (Nat × Q) → Nat → Option Q
  | [], _ => none
  | (j, q) :: r, k => match Nat.beq j k with
    | true => some q
    | false => lkQ r k

noncomputable def okNews (n : Nat) (news : List PV) : Bool := news.all (fun p => decide (p.cells.length = n)) && news.all (fun p => p.cells.all PV.isCell)
noncomputable def okOld (n : Nat) (es news : List PV) : Bool := (es.isEmpty || !news.isEmpty) && es.all (fun p => decide (p.cells.length = n))
/-- Either asked, or seen. -/
noncomputable def ask (open' : Bool) (b : Bool) (K : Prop) : Prop := if open' then b = true ∧ K else if b then K else False

noncomputable def lookC (key : Value) (K : Option PV → List (Nat × Q) → Prop) : List (List (Nat × Q)) → List (Value × PV) → Prop
  | ovs, [] => K none (ovs.headD [])
  | ovs, (j, p) :: r => match keyEq key j with
    | some b => (b = true → K (some p) (ovs.headD [])) ∧ (b = false → lookC key K ovs.tail r)
    | none => False

noncomputable def sliceX (n : Nat) (full : Bool) (es : List PV) (lo hi mx : Option AV) (K : AV → Prop) : Prop := match lo, hi, mx with
  | none, none, none => K (.pv (.sl full es))
  | some x, none, none => match asI x with
    | some i => 0 ≤ i ∧ i ≤ es.length ∧ es.all (fun p => decide (p.cells.length = n)) = true ∧ K (.pv (.sl full (es.drop i.toNat)))
    | none => False
  | none, some y, none => match asI y with
    | some j => 0 ≤ j ∧ j ≤ es.length ∧ K (.pv (.sl false (es.take j.toNat)))
    | none => False
  | some x, some y, none => match asI x, asI y with
    | some i, some j => 0 ≤ i ∧ i ≤ j ∧ j ≤ es.length ∧ es.all (fun p => decide (p.cells.length = n)) = true ∧ K (.pv (.sl false ((es.drop i.toNat).take (j.toNat - i.toNat))))
    | _, _ => False
  | none, some y, some z => match asI y, asI z with
    | some j, some m => 0 ≤ j ∧ j = m ∧ m ≤ es.length ∧ K (.pv (.sl true (es.take j.toNat)))
    | _, _ => False
  | some x, some y, some z => match asI x, asI y, asI z with
    | some i, some j, some m => 0 ≤ i ∧ i ≤ j ∧ j = m ∧ m ≤ es.length ∧ es.all (fun p => decide (p.cells.length = n)) = true ∧ K (.pv (.sl true ((es.drop i.toNat).take (j.toNat - i.toNat))))
    | _, _, _ => False
  | _, _, _ => False

/-- A piece of a row of one's own. -/
noncomputable def pieceX (len : Nat) (lo hi mx : Option AV) (K : Nat → Nat → Prop) : Prop := match lo, hi, mx with
  | none, none, none => K 0 len
  | some x, none, none => match asI x with
    | some i => 0 ≤ i ∧ i ≤ len ∧ K i.toNat len
    | none => False
  | none, some y, none => match asI y with
    | some j => 0 ≤ j ∧ j ≤ len ∧ K 0 j.toNat
    | none => False
  | some x, some y, none => match asI x, asI y with
    | some i, some j => 0 ≤ i ∧ i ≤ j ∧ j ≤ len ∧ K i.toNat j.toNat
    | _, _ => False
  | _, _, _ => False

noncomputable def forkX (l r : List (Nat × Q)) (K : Eff → List (Nat × Q) → Prop) (e : Eff) : Prop := match e.val with
  | .pv (.lit (.bool b)) => (b = true → K ⟨.pv (.lit (.bool true)), e.mem, e.reads⟩ l) ∧ (b = false → K ⟨.pv (.lit (.bool false)), e.mem, e.reads⟩ r)
  | _ => False
noncomputable def lendX (P : Program) [Globs P] (σ : Store) (k : Nat) (bset : List Nat) (rps : List RP) (bps : List BQ) (p : Option Prep) (K : Eff → Prop) : Prop := match p with
  | some (.call g args) => match lend σ bset 0 args with
    | some (as, keys, ks) => match lentCells σ keys with
      | some (bs, ks') => if (nodupB keys && keys.all (fun k => !(ks ++ ks').contains k)) = true then (if bset.isEmpty then False else exRs rps fun rs => exBs bps fun cs => Cb P g as bs rs cs ∧ if cs.length = keys.length then (match lentE k σ keys (ks ++ ks') rs cs with
          | some e => K e
          | none => False) else False) else False
      | none => False
    | none => False
  | _ => False
noncomputable def appX (P : Program) (σ : Store) (k : Nat) (t tx : TypeId) (s : AV) (news : List PV) (ks : List Nat) (c1 c2 : Bool) (K : Eff → Prop) : Prop := match P.underlying t, P.underlying tx with
  | some (.slice el), some (.slice _) => match sz P el, zr P el, byt P el with
    | some n, some z, some b => if z.cells.length = n ∧ 0 < n ∧ 0 < b then ask c1 (okNews n news) (match s with
      | .ms r _ _ true => match lk σ r with
        | some (.row true e' s' es) => if e' = el ∧ s' = n ∧ r ∉ ks then (es.length + news.length) * b ≤ 140737488355328 ∧ match newE k σ (.ms k 0 (es.length + news.length) true) (.row true el n (es ++ news)) (r :: ks) [(r, .stale)] with
          | some e => K e
          | none => False
          else False
        | _ => False
      | .pv (.sl true es) => ask c2 (okOld n es news) ((es.length + news.length) * b ≤ 140737488355328 ∧ match newE k σ (.ms k 0 (es.length + news.length) true) (.row true el n (es ++ news)) ks [] with
          | some e => K e
          | none => False)
      | _ => False) else False
    | _, _, _ => False
  | _, _ => False
/-- What an operation must show, and what it does then. -/
noncomputable def opX (P : Program) [Globs P] (q : Option Q) (ev : Operand → AV) (σ : Store) (k : Nat) (o : Oper) (K' : Eff → List (Nat × Q) → Prop) : Prop := let K := fun e => K' e []; match q with
  | none => match prep P ev σ k o with
    | some (.eff e) => K e
    | _ => False
  | some .off => match prep P ev σ k o with
    | some (.eff e) => K e
    | _ => False
  | some (.fork l r) => match prep P ev σ k o with
    | some (.eff e) => forkX l r K' e
    | _ => False
  | some .dull => match prep P ev σ k o with
    | some (.eff e) => K ⟨e.val.dull, e.mem, e.reads⟩
    | _ => False
  | some (.wk y) => match prep P ev σ k o with
    | some (.eff e) => AvLe e.val y ∧ K ⟨y, e.mem, e.reads⟩
    | _ => False
  | some (.eff e) => prep P ev σ k o = some (.eff e) ∧ K e
  | some (.efn F) => match F ev σ with
    | some e => prep P ev σ k o = some (.eff e) ∧ K e
    | none => False
  | some (.nxt l r) => match o.op with
    | .next x true => match ev x with
      | .bp k 0 => match lk σ k with
        | some (.it true s pos) => (pos < s.size → K' ⟨.pv (.tuple [.lit (.bool true), .lit (.int .i64 pos), .lit (.int .i32 (Utf8.decode s pos).1)]), [(k, .it true s (pos + (Utf8.decode s pos).2))], [k]⟩ l) ∧ (¬ pos < s.size → K' ⟨.pv (.tuple [.lit (.bool false)]), [], [k]⟩ r)
        | _ => False
      | _ => False
    | _ => False
  | some (.call rps) => match prep P ev σ k o with
    | some (.call g args) => match mapR (resolve σ deep) args with
      | some (ps, ks) => exRs rps fun rs => Ct P g ps rs ∧ match callE k σ ks rs with
        | some e => K e
        | none => False
      | none => False
    | _ => False
  | some (.callf rps l r) => match prep P ev σ k o with
    | some (.call g args) => match mapR (resolve σ deep) args with
      | some (ps, ks) => exRs rps fun rs => Ct P g ps rs ∧ match callE k σ ks rs with
        | some e => forkX l r K' e
        | none => False
      | none => False
    | _ => False
  | some (.callb rps bset bps) => lendX P σ k bset rps bps (prep P ev σ k o) K
  | some (.callbf rps bset bps l r) => lendX P σ k bset rps bps (prep P ev σ k o) (forkX l r K')
  | some (.ix α en) => match o.op with
    | .indexAddr t x ix => match P.underlying t with
      | some (.slice el) => match asI (ev ix), ev x with
        | some i, .pv (.sl _ es) => 0 ≤ i ∧ ∃ a : α, es[i.toNat]? = some (en a) ∧ if sz P el = some (en a).cells.length then (if 0 < (en a).cells.length then K ⟨.pv (.ip (en a).cells 0), [], []⟩ else False) else False
        | _, _ => False
      | _ => False
    | _ => False
  | some .ixr => match o.op with
    | .indexAddr t x ix => match P.underlying t with
      | some (.slice el) => match asI (ev ix), ev x with
        | some i, .ms r off len _ => match lk σ r with
          | some (.row _ _ s _) => 0 ≤ i ∧ i < (len : Int) ∧ if sz P el = some s then K ⟨.rp r (off + i.toNat) 0, [], [r]⟩ else False
          | _ => False
        | _, _ => False
      | some (.array n el) => match asI (ev ix), ev x with
        | some i, .rp r 0 0 => match lk σ r with
          | some (.row _ _ s _) => 0 ≤ i ∧ i < (n : Int) ∧ if sz P el = some s then K ⟨.rp r i.toNat 0, [], [r]⟩ else False
          | _ => False
        | _, _ => False
      | _ => False
    | _ => False
  | some (.ld α en) => match o.op with
    | .load t x => match ev x, sz P t, isAggT P t with
      | .rp r i off, some n, some ag => match lk σ r with
        | some (.row _ _ _ es) => ∃ a : α, es[i]? = some (en a) ∧ if off + n ≤ (en a).cells.length then (match ag with
            | true => K ⟨AV.mkAgg ((((en a).cells.drop off).take n).map .pv), [], [r]⟩
            | false => match (en a).cells[off]? with
              | some p => if n = 1 then K ⟨.pv p, [], [r]⟩ else False
              | none => False) else False
        | _ => False
      | _, _, _ => False
    | _ => False
  | some (.st α en) => match o.op with
    | .store t x y => match ev x, sz P t with
      | .rp r i off, some n => match lk σ r with
        | some (.row true e s es) => match resolve σ deep (ev y) with
          | some (p, ks) => ∃ a : α, es[i]? = some (en a) ∧ if p.cells.length = n ∧ off + n ≤ (en a).cells.length ∧ p.cells.all PV.isCell = true ∧ r ∉ ks then (match PV.ofCellsB (en a).isAgg ((en a).cells.take off ++ p.cells ++ (en a).cells.drop (off + n)) with
              | some z => K ⟨.pv (.tuple []), freezeE σ ks ++ [(r, .row true e s (es.set i z))], r :: ks⟩
              | none => False) else False
          | none => False
        | _ => False
      | _, _ => False
    | _ => False
  | some .slc => match o.op with
    | .slice t x lo hi mx => match P.underlying t with
      | some (.slice el) => match sz P el, ev x with
        | some n, .pv (.sl full es) => sliceX n full es (lo.map ev) (hi.map ev) (mx.map ev) fun y => K ⟨y, [], []⟩
        | _, _ => False
      | _ => False
    | _ => False
  | some .slr => match o.op with
    | .slice t x lo hi mx => match P.underlying t with
      | some (.slice el) => match sz P el, ev x with
        | some n, .ms r off len _ => match lk σ r with
          | some (.row _ _ s _) => if s = n then pieceX len (lo.map ev) (hi.map ev) (mx.map ev) fun i j => K ⟨.ms r (off + i) (j - i) false, [], [r]⟩ else False
          | _ => False
        | _, _ => False
      | _ => False
    | _ => False
  | some .slf => match o.op with
    | .slice t x lo hi mx => match P.underlying t with
      | some (.slice el) => match sz P el, ev x with
        | some n, .ms r off len _ => match lk σ r with
          | some (.row _ e s es) => if s = n then pieceX len (lo.map ev) (hi.map ev) (mx.map ev) fun i j => off + i + (j - i) ≤ es.length ∧ K ⟨.pv (.sl false ((es.drop (off + i)).take (j - i))), [(r, .row false e s es)], [r, r]⟩ else False
          | _ => False
        | _, _ => False
      | _ => False
    | _ => False
  | some .clr => match o.op with
    | .call ⟨.builtin .clear, as, ts⟩ => match as.toList.map ev, ts.toList with
      | [x], [t] => match P.underlying t, x with
        | some (.slice el), .ms r off len _ => match lk σ r, sz P el, zr P el with
          | some (.row true e s es), some n, some z => if s = n ∧ z.cells.length = n ∧ z.cells.all PV.isCell = true ∧ 0 < n then off + len ≤ es.length ∧ K ⟨.pv (.tuple []), [(r, .row true e s (es.take off ++ List.replicate len z ++ es.drop (off + len)))], [r]⟩ else False
          | _, _, _ => False
        | _, _ => False
      | _, _ => False
    | _ => False
  | some .srt => match prep P ev σ k o with
    | some (.call g [.ms r _ _ true]) => match lk σ r with
      | some (.row true e 1 es) => SrtOk P g ∧ ∃ zs : List Int, es = zs.map intE ∧ zs.length < 4611686018427387904 ∧ K ⟨.pv (.tuple []), [(r, .row true e 1 ((zs.mergeSort fun x y => decide (x ≤ y)).map intE))], [r]⟩
      | _ => False
    | _ => False
  | some .frz => match isSl o, prep P ev σ k o with
    | true, some (.eff e) => match frzE true σ e with
      | some e => K ⟨e.val.dull, e.mem, e.reads⟩
      | none => False
    | _, _ => False
  | some .trn => match prepZ P true ev σ k o with
    | some (.eff e) => K e
    | _ => False
  | some (.app c1 c2) => match o.op with
    | .call ⟨.builtin .append, as, ts⟩ => match as.toList.map ev, ts.toList with
      | [s, x], [t, tx] => match elems σ x with
        | some (news, ks) => appX P σ k t tx s news ks c1 c2 K
        | none => False
      | _, _ => False
    | _ => False
  | some (.appm c2) => match o.op with
    | .call ⟨.builtin .append, as, ts⟩ => match as.toList.map ev, ts.toList with
      | [s, .ms r off len false], [t, tx] => match lk σ r with
        | some (.row _ _ _ es) => off + len ≤ es.length ∧ appX P σ k t tx s ((es.drop off).take len) [r] true c2 K
        | _ => False
      | _, _ => False
    | _ => False
  | some .mk => match o.op with
    | .makeSlice t l c => match P.underlying t, asI (ev l), asI (ev c) with
      | some (.slice el), some l, some c => match sz P el, zr P el, byt P el with
        | some n, some z, some b => if z.cells.length = n ∧ 0 < n then 0 ≤ l ∧ l ≤ c ∧ (b : Int) * c ≤ 281474976710656 ∧ c ≤ 9223372036854775807 ∧ match newE k σ (.ms k 0 l.toNat true) (.row true el n (List.replicate l.toNat z)) [] [] with
            | some e => K e
            | none => False
          else False
        | _, _, _ => False
      | _, _, _ => False
    | _ => False
  | some .appz => match o.op with
    | .call ⟨.builtin .append, as, ts⟩ => match as.toList.map ev, ts.toList with
      | [s, x], [t, tx] => match P.underlying t, P.underlying tx, s, x with
        | some (.slice el), some (.int _), .pv (.sl true []), .pv (.lit (.int .i64 i)) => match sz P el, zr P el, byt P el with
          | some n, some z, some b => if z.cells.length = n ∧ z.cells.all PV.isCell = true ∧ 0 < n then 0 < i ∧ i ≤ 140737488355328 ∧ i * b ≤ 140737488355328 ∧ match newE k σ (.ms k 0 i.toNat true) (.row true el n (List.replicate i.toNat z)) [] [] with
              | some e => K e
              | none => False
            else False
          | _, _, _ => False
        | _, _, _, _ => False
      | _, _ => False
    | _ => False
  | some (.look ovs) => match o.op with
    | .lookup t x ix ok => match P.underlying t, ev ix with
      | some (.map kt et), .pv (.lit key) => if kindKey P kt key then match (match ev x with
          | .pv (.map es) => some (es, [])
          | .pv (.lit (.map none)) => some ([], [])
          | .mm r => match lk σ r with
            | some (.map _ es) => some (es, [r])
            | _ => none
          | _ => none), zr P et with
        | some (es, ks), some z => lookC key (fun r ov => match r with
          | some p => K' ⟨if ok then .pv (.tuple [p, .lit (.bool true)]) else .pv p, [], ks⟩ ov
          | none => K' ⟨if ok then .pv (.tuple [z, .lit (.bool false)]) else .pv z, [], ks⟩ ov) ovs es
        | _, _ => False
        else False
      | _, _ => False
    | _ => False
  | some .div => match o.op with
    | .binOp op _ x y _ => match ev x, ev y with
      | .pv (.lit (.int .i64 a)), .pv (.lit (.int .i64 b)) => match op with
        | .rem => b ≠ 0 ∧ K ⟨.pv (.lit (.int .i64 (a.tmod b))), [], []⟩
        | .quo => b ≠ 0 ∧ K ⟨.pv (.lit (.int .i64 (IntKind.i64.wrap (a.tdiv b)))), [], []⟩
        | _ => False
      | _, _ => False
    | _ => False
  | some .b2s => match o.op with
    | .convert src dst x => match P.underlying src, P.underlying dst, elems σ (ev x) with
      | some (.slice e), some .string, some (es, ks) => match P.underlying e with
        | some (.int .u8) => ∃ bs : List UInt8, es = bs.map (fun b => PV.lit (.int .u8 b.toNat)) ∧ K ⟨.pv (.lit (.string ⟨bs.toArray⟩)), [], ks⟩
        | _ => False
      | _, _, _ => False
    | _ => False
  | _ => False

/-- A join: what is behind it once, what is ahead with it. -/
noncomputable def Jn {V : Type} (J : V → Prop) (T : (V → Prop) → Prop) : Prop := T J
noncomputable def itL {V : Type} (F : (V → Prop) → V → Prop) : Nat → V → Prop
  | 0, _ => False
  | n + 1, v => F (itL F n) v
/-- A loop. -/
noncomputable def Lo {V : Type} (F : (V → Prop) → V → Prop) (v : V) : Prop := ∃ n, itL F n v

/-- The same, with what it is handed laid open. -/
noncomputable def laid {α : Type} : List α → (List α → Prop) → Prop
  | [], K => K []
  | x :: r, K => laid r fun r' => K (x :: r')
theorem laid_eq {α : Type} : ∀ (l : List α) (K : List α → Prop), laid l K = K l
  | [], K => rfl
  | x :: r, K => laid_eq r _
noncomputable def AV.laid : AV → (AV → Prop) → Prop
  | .pv (.lit v), K => K (.pv (.lit v))
  | .pv p, K => K (.pv p)
  | .bot, K => K .bot
  | .ms k off len own, K => K (.ms k off len own)
  | .rp k i off, K => K (.rp k i off)
  | .bp k off, K => K (.bp k off)
  | .mm k, K => K (.mm k)
  | .agg cs, K => K (.agg cs)
  | .tuple cs, K => K (.tuple cs)
  | .fn f a c, K => K (.fn f a c)
  | .nilq b es, K => K (.nilq b es)
  | .yl k, K => K (.yl k)
  | .gp g off, K => K (.gp g off)
theorem AV.laid_eq (x : AV) (K : AV → Prop) : x.laid K = K x := by
  cases x <;> first | rfl | skip
  rename_i p; cases p <;> rfl
noncomputable def putX (dst : Option Nat) (nt : Nat) (x : AV) (env : Env) (K : Env → Prop) : Prop := match dst with
  | none => K env
  | some d => match Nat.ble nt d with
    | true => False
    | false => match env with
      | [] => K [(d, x)]
      | (j, y) :: r => match Nat.ble d j with
        | false => K ((d, x) :: (j, y) :: r)
        | true => laid (ins d x ((j, y) :: r)) K
theorem putX_spec {dst : Option Nat} {nt : Nat} {x : AV} {env : Env} {K : Env → Prop} (h : putX dst nt x env K) : ∃ env', putE dst nt x env = some env' ∧ K env' := by
  unfold putX at h
  split at h
  · exact ⟨_, rfl, h⟩
  · rename_i d
    split at h
    · exact h.elim
    · rename_i hb
      have hlt : d < nt := by
        have : ¬ nt ≤ d := fun h' => by rw [Nat.ble_eq_true_of_le h'] at hb; cases hb
        omega
      refine ⟨_, by simp only [putE]; rw [if_pos hlt], ?_⟩
      split at h
      · exact h
      · split at h
        · rename_i hb2
          rename_i j y r _
          have h3 : ¬ d ≤ j := fun h' => by rw [Nat.ble_eq_true_of_le h'] at hb2; cases hb2
          rw [ins_cons, if_pos (by omega)]
          exact h
        · rw [laid_eq] at h; exact h
noncomputable def memX (sto : Store) (m : List (Nat × Blk)) (K : Store → Prop) : Prop := match m with
  | [] => K sto
  | x :: r => laid (applyMem sto (x :: r)) K
theorem memX_eq (sto : Store) (m : List (Nat × Blk)) (K : Store → Prop) : memX sto m K = K (applyMem sto m) := by
  cases m with
  | nil => rfl
  | cons x r => exact laid_eq _ _
noncomputable def allP : List Prop → Prop → Prop
  | [], K => K
  | p :: ps, K => p ∧ allP ps K
noncomputable def absorbX0 (c0 : Nat) (l : List SI) (env : Env) (sto : Store) (K : List Prop → VT l → Prop) : Prop :=
  laid (restrict env (slotsOf l)) fun env0 => laid (renCells (rensOf l) sto) fun sto =>
  match takeRows (rowsOf l) env0 sto with
  | (rs, env1, sto1) => laid rs fun rs => laid env1 fun env1 => laid sto1 fun sto1 =>
    laid (dropEnv (fun k => (keptOf l).contains k) sto1 env1) fun env2 => laid (dropSto (fun k => (keptOf l).contains k) sto1) fun sto2 =>
    match giveRows c0 rs env2 sto2 with
    | (env3, sto3) => laid env3 fun env3 => laid sto3 fun sto3 =>
      if sto3.all (fun x => listed c0 x.1 l) then match getV c0 env3 sto3 l with
        | some (ps, v) => K ps v
        | none => False
      else False
/-- absorb, laid open. -/
noncomputable def absorbX (B : List Nat) (c0 nt : Nat) (l : List SI) : St → (List Prop → VT l → Prop) → Prop
  | ⟨env, sto, clk, nt'⟩, K =>
  if nt' = nt then
    if B.all (fun k => (keptOf l).contains k) then match anyStale B (rensOf l) sto with
      | false => absorbX0 c0 l env sto K
      | true => laid (dropEnv (fun k => !staleT B (rensOf l) sto k) sto (restrict env (slotsOf l))) fun env1 => laid (dropSto (fun k => !staleT B (rensOf l) sto k) sto) fun sto1 => absorbX0 c0 l env1 sto1 K
    else False
  else False
theorem absorbX0_spec {c0 : Nat} {l : List SI} {s : St} {K : List Prop → VT l → Prop} (h : absorbX0 c0 l s.env s.sto K) : ∃ ps v, absorb0 c0 l s = some (ps, v) ∧ K ps v := by
  obtain ⟨env, sto, clk, nt'⟩ := s
  simp only [absorbX0, laid_eq] at h
  split at h
  · rename_i h3
    split at h
    · rename_i ps v hv
      refine ⟨ps, v, ?_, h⟩
      unfold absorb0
      exact (if_pos h3).trans hv
    · exact h.elim
  · exact h.elim
theorem absorbX_spec {B : List Nat} {c0 nt : Nat} {l : List SI} {s : St} {K : List Prop → VT l → Prop} (h : absorbX B c0 nt l s K) : ∃ ps v, absorb B c0 nt l s = some (ps, v) ∧ K ps v := by
  obtain ⟨env, sto, clk, nt'⟩ := s
  simp only [absorbX, laid_eq] at h
  split at h
  · rename_i h1
    split at h
    · rename_i h2
      split at h
      · rename_i h3
        obtain ⟨ps, v, h4, h5⟩ := absorbX0_spec (s := ⟨env, sto, clk, nt'⟩) h
        exact ⟨ps, v, by unfold absorb pre; rw [if_pos h1, if_pos h2]; simp only [h3]; exact h4, h5⟩
      · rename_i h3
        obtain ⟨ps, v, h4, h5⟩ := absorbX0_spec (s := norm (fun k => !staleT B (rensOf l) sto k) (slotsOf l) [] c0 ⟨env, sto, clk, nt'⟩) h
        exact ⟨ps, v, by unfold absorb pre; rw [if_pos h1, if_pos h2]; simp only [h3]; exact h4, h5⟩
    · exact h.elim
  · exact h.elim
noncomputable def hookOf (B : List Nat) (c0 nt : Nat) (l : List SI) (J : VT l → Prop) (s : St) : Prop := absorbX B c0 nt l s fun ps v => allP ps (J v)

noncomputable def lensX (env : Env) (σ : Store) : List Nat → Prop → Prop
  | [], K => K
  | t :: ts, K => match lk env t with
    | some (.pv (.sl _ es)) => es.length ≤ 9223372036854775807 → lensX env σ ts K
    | some (.ms k _ _ _) => match lk σ k with
      | some (.row _ _ _ es) => es.length ≤ 9223372036854775807 → lensX env σ ts K
      | _ => False
    | some (.bp k _) => match lk σ k with
      | some (.box _ cs) => lensB env σ cs (lensX env σ ts K)
      | _ => False
    | some (.pv (.agg ps)) => lensB env σ (ps.map .pv) (lensX env σ ts K)
    | _ => False
 where lensB (env : Env) (σ : Store) : List AV → Prop → Prop
  | [], K => K
  | .pv (.sl _ es) :: r, K => es.length ≤ 9223372036854775807 → lensB env σ r K
  | _ :: r, K => lensB env σ r K

/-- A loop whose rounds a function's calls are. -/
structure Cx where
  env : Env
  ps : List Nat
  assign : Code
  body : Code
  nt : Nat
/-- Where code is: in a round; names that must stay; loops whose rounds are called; what is asked at its end. -/
structure Ctx where
  rnd : Bool
  keep : List Nat
  cx : List (Nat × Cx)
  end' : Jmp → St → Prop
noncomputable def inB (B : List Nat) (k : Nat) : Bool := B.contains k
/-- Without the names that go. -/
noncomputable def dropK (B : List Nat) (env : Env) : Env := env.map fun x => (x.1, if x.2.okRefs (inB B) deep then x.2 else .bot)
noncomputable def cxIn (B : List Nat) (cx : List (Nat × Cx)) : Bool := cx.all fun x => inB B x.1 && x.2.env.all (fun y => y.2.okRefs (inB B) deep)
noncomputable def lkCx : List (Nat × Cx) → Nat → Option Cx
  | [], _ => none
  | (j, c) :: r, k => match Nat.beq j k with
    | true => some c
    | false => lkCx r k
/-- The function, by its number. -/
noncomputable def Fn_ (P : Program) (f : Nat) (fn : Func) (K : Prop) : Prop := P.funcs[f]? = some fn ∧ K
noncomputable def okFn (fn : Func) (n : Nat) : Bool := !(fn.name == "runtime.NumGoroutine") && Nat.ble n fn.ntmps && match fn.body with
  | some c => okCode c
  | none => false
/-- A call's function and arguments. -/
noncomputable def calleeA (ev : Operand → AV) (o : Oper) : Option (Nat × List AV) := match o.op with
  | .call ⟨.value g, as, _⟩ => match ev g with
    | .pv (.fn (.func f) a cs) => some (f, a.map .pv ++ as.toList.map ev ++ cs.map .pv)
    | .fn (.func f) a cs => some (f, a ++ as.toList.map ev ++ cs)
    | _ => none
  | _ => none
noncomputable def yieldA (ev : Operand → AV) (o : Oper) : Option (Nat × List AV) := match o.op with
  | .call ⟨.value g, as, _⟩ => match ev g with
    | .yl k => some (k, as.toList.map ev)
    | _ => none
  | _ => none
noncomputable def seqA (x : AV) (kl : Nat) : Option (Nat × List AV) := match x with
  | .pv (.fn (.func f) a cs) => some (f, a.map .pv ++ [.yl kl] ++ cs.map .pv)
  | .fn (.func f) a cs => some (f, a ++ [.yl kl] ++ cs)
  | _ => none
noncomputable def putAll (nt : Nat) : List Nat → List AV → Env → Option Env
  | [], [], env => some env
  | p :: ps, x :: xs, env => match Nat.ble nt p with
    | true => none
    | false => putAll nt ps xs (ins p x env)
  | _, _, _ => none

/-- What must be shown of code, step by step. -/
noncomputable def runX (P : Program) [Globs P] : Nat → Ctx → List (Nat × Q) → Nat → List It → St → Prop
  | 0, _, _, _, _, _ => False
  | n + 1, C, ans, i, k, ⟨env, sto, clk, nt⟩ => match k with
    | [] => C.end' .fin ⟨env, sto, clk, nt⟩
    | .code c :: k' => match c with
      | .skip => runX P n C ans i k' ⟨env, sto, clk, nt⟩
      | .label _ => runX P n C ans i k' ⟨env, sto, clk, nt⟩
      | .ret => C.end' .ret ⟨env, sto, clk, nt⟩
      | .seq a b => match lkQ ans (firstRegion b * 1000 + 998) with
        | some (.join l) => Jn (fun v : VT l => runX P n C ans i (.code b :: k') (instSt (clk + 1) nt l v))
            (fun j => runX P n C ans i (.code a :: .hook (hookOf C.keep (clk + 1) nt l j) :: .code b :: k') ⟨env, sto, clk, nt⟩)
        | _ => runX P n C ans i (.code a :: .code b :: k') ⟨env, sto, clk, nt⟩
      | .cond c a b => match evE env c with
        | .pv (.lit (.bool true)) => runX P n C ans i (.code a :: k') ⟨env, sto, clk, nt⟩
        | .pv (.lit (.bool false)) => runX P n C ans i (.code b :: k') ⟨env, sto, clk, nt⟩
        | .nilq false es => ((∀ p ∈ es, p.cells = []) → runX P n C ans i (.code a :: k') ⟨env, sto, clk, nt⟩) ∧ runX P n C ans i (.code b :: k') ⟨env, sto, clk, nt⟩
        | .nilq true es => runX P n C ans i (.code a :: k') ⟨env, sto, clk, nt⟩ ∧ ((∀ p ∈ es, p.cells = []) → runX P n C ans i (.code b :: k') ⟨env, sto, clk, nt⟩)
        | _ => False
      | .block id c => runX P n C ans i (.code c :: .blk id :: k') ⟨env, sto, clk, nt⟩
      | .exit id => match exitA id k' with
        | some k'' => runX P n C ans i k'' ⟨env, sto, clk, nt⟩
        | none => C.end' (.exit id) ⟨env, sto, clk, nt⟩
      | .region id ops dr => match lkQ ans (id * 1000 + 997) with
        | some (.lens ts) => lensX env sto ts (runX P n C ans (id * 1000) (.ops ops.toList ops.toList dr [] :: k') ⟨env, sto, clk + 1, nt⟩)
        | _ => runX P n C ans (id * 1000) (.ops ops.toList ops.toList dr [] :: k') ⟨env, sto, clk + 1, nt⟩
      | .loop c => match lkQ ans (firstRegion c * 1000 + 999) with
        | some (.loop l) => absorbX C.keep (clk + 1) nt l ⟨env, sto, clk, nt⟩ fun ps v0 => allP ps (Lo (fun L v => runX P n C ans i (.code c :: .hook (hookOf C.keep (clk + 1) nt l L) :: .loop c (clk + 1) :: k') (instSt (clk + 1) nt l v)) v0)
        | some .unroll => runX P n C ans i (.code c :: .loop c 0 :: k') ⟨env, sto, clk, nt⟩
        | _ => False
      | .scope c => match lkQ ans (firstRegion c * 1000 + 996) with
        | some (.scope lab l) => match findLabel c lab with
          | some rest => Jn (fun v : VT l => Lo (fun L v => runX P n C ans i (.code rest :: .scp lab (hookOf C.keep (clk + 1) nt l L) :: k') (instSt (clk + 1) nt l v)) v)
              (fun j => runX P n C ans i (.code c :: .scp lab (hookOf C.keep (clk + 1) nt l j) :: k') ⟨env, sto, clk, nt⟩)
          | none => False
        | _ => False
      | .goto lab => match gotoA lab k' with
        | some h => h ⟨env, sto, clk, nt⟩
        | none => False
      | .rangeFunc g ps assign body => match lkQ ans (firstRegion (.seq assign body) * 1000 + 995), C.rnd, C.cx with
        | some (.rng fn B ansG), false, [] => match seqA (evE env g) ((clk + 1) * 65536 + 65532), fn.body with
          | some (f, args), some c => match okFn fn args.length && C.keep.all (inB B) && !(inB B ((clk + 1) * 65536 + 65532)) && (lk sto ((clk + 1) * 65536 + 65532)).isNone && okCode assign && okCode body with
            | true => Fn_ P f fn (laid args fun args => laid (dropK B env) fun envB => runX P n ⟨false, ((clk + 1) * 65536 + 65532) :: B, [((clk + 1) * 65536 + 65532, ⟨envB, ps.toList, assign, body, nt⟩)], fun j sc => match j with
                | .fin | .ret => match results? P sc.env sc.sto fn.results.toList with
                  | some _ => match lk sc.sto ((clk + 1) * 65536 + 65532) with
                    | some (.lp true false none) => laid (ins ((clk + 1) * 65536 + 65532) .stale sc.sto) fun sto1 => runX P n C ans i k' ⟨envB, sto1, sc.clk, nt⟩
                    | some (.lp true false (some c')) => match okCode c' with
                      | true => laid (ins ((clk + 1) * 65536 + 65532) .stale sc.sto) fun sto1 => runX P n C ans i (.code c' :: k') ⟨envB, sto1, sc.clk, nt⟩
                      | false => False
                    | _ => False
                  | none => False
                | _ => False⟩ ansG 0 [.code c] ⟨envOf 0 args, ins ((clk + 1) * 65536 + 65532) (.lp true false none) sto, clk + 1, fn.ntmps⟩)
            | false => False
          | _, _ => False
        | _, _, _ => False
      | _ => False
    | .blk _ :: k' => runX P n C ans i k' ⟨env, sto, clk, nt⟩
    | .scp _ _ :: k' => runX P n C ans i k' ⟨env, sto, clk, nt⟩
    | .hook h :: _ => h ⟨env, sto, clk, nt⟩
    | .loop c _ :: k' => match lkQ ans (firstRegion c * 1000 + 999) with
      | some .unroll => runX P n C ans i (.code c :: .loop c 0 :: k') ⟨env, sto, clk, nt⟩
      | _ => False
    | .ops _ [] _ _ :: k' => runX P n C ans i k' ⟨env, sto, clk, nt⟩
    | .ops all (o :: rest) dr acc :: k' => match wantedA all env o with
      | some false => putX o.dst nt (.pv (.tuple [])) env fun env => runX P n C ans (i + 1) (.ops all rest dr (if dr then acc ++ [([], [])] else acc) :: k') ⟨env, sto, clk, nt⟩
      | some true => match lkQ ans i with
        | some (.inl fn B ansC) => match calleeA (evE env) o, fn.body with
          | some (f, args), some c => match !dr && okFn fn args.length && C.keep.all (inB B) && cxIn B C.cx with
            | true => Fn_ P f fn (laid args fun args => runX P n ⟨false, B, [], fun j sc => match j with
                | .fin | .ret => match results? P sc.env sc.sto fn.results.toList with
                  | some xs => (single xs).laid fun x => laid (dropK B env) fun env1 => putX o.dst nt x env1 fun env2 => runX P n C ans (i + 1) (.ops all rest false acc :: k') ⟨env2, sc.sto, sc.clk, nt⟩
                  | none => False
                | _ => False⟩ ansC 0 [.code c] ⟨envOf 0 args, sto, clk, fn.ntmps⟩)
            | false => False
          | _, _ => False
        | some (.inlj fn B ansC l) => match calleeA (evE env) o, fn.body with
          | some (f, args), some c => match !dr && okFn fn args.length && C.keep.all (inB B) && cxIn B C.cx with
            | true => Jn (fun v : VT l => runX P n C ans (i + 1) (.ops all rest false acc :: k') (instSt (clk + 1) nt l v)) fun J => Fn_ P f fn (laid args fun args => runX P n ⟨false, B, [], fun j sc => match j with
                | .fin | .ret => match results? P sc.env sc.sto fn.results.toList with
                  | some xs => (single xs).laid fun x => laid (dropK B env) fun env1 => putX o.dst nt x env1 fun env2 => hookOf C.keep (clk + 1) nt l J ⟨env2, sc.sto, sc.clk, nt⟩
                  | none => False
                | _ => False⟩ ansC 0 [.code c] ⟨envOf 0 args, sto, clk, fn.ntmps⟩)
            | false => False
          | _, _ => False
        | some (.yld B ansR) => match yieldA (evE env) o with
          | some (kl, args) => match lkCx C.cx kl, lk sto kl with
            | some cx, some (.lp true false none) => match !dr && C.keep.all (inB B) && cxIn B C.cx && okCode cx.assign && okCode cx.body, putAll cx.nt cx.ps args cx.env with
              | true, some envR => laid envR fun envR => runX P n ⟨true, B, [], fun j sa => match j with
                  | .fin => match lk sa.sto kl with
                    | some (.lp true false none) => laid (ins kl (.lp true true none) sa.sto) fun sto1 => runX P n ⟨true, B, [], fun j sr => match lk sr.sto kl with
                        | some (.lp true true none) => laid (ins kl (.lp true false j.pend) sr.sto) fun sto2 => laid (dropK B env) fun env1 => putX o.dst nt (.pv (.lit (.bool j.pend.isNone))) env1 fun env2 => runX P n C ans (i + 1) (.ops all rest false acc :: k') ⟨env2, sto2, sr.clk, nt⟩
                        | _ => False⟩ ansR 0 [.code cx.body] ⟨sa.env, sto1, sa.clk, sa.nt⟩
                    | _ => False
                  | _ => False⟩ ansR 0 [.code cx.assign] ⟨envR, sto, clk, cx.nt⟩
              | _, _ => False
            | _, _ => False
          | none => False
        | q => opX P q (evE env) sto (keyOf clk o.dst) o fun e ov => e.val.laid fun x => putX o.dst nt x env fun env => match okD all dr o e.reads (keysOf e.mem) 0 acc with
          | true => memX sto e.mem fun sto => runX P n C (ov ++ ans) (i + 1) (.ops all rest dr (if dr then acc ++ [(e.reads, keysOf e.mem)] else acc) :: k') ⟨env, sto, clk, nt⟩
          | false => False
      | none => False
theorem runX_succ (P : Program) [Globs P] (n : Nat) (C : Ctx) (ans : List (Nat × Q)) (i : Nat) (k : List It) (env : Env) (sto : Store) (clk nt : Nat) : runX P (n + 1) C ans i k ⟨env, sto, clk, nt⟩ = (match k with
    | [] => C.end' .fin ⟨env, sto, clk, nt⟩
    | .code c :: k' => match c with
      | .skip => runX P n C ans i k' ⟨env, sto, clk, nt⟩
      | .label _ => runX P n C ans i k' ⟨env, sto, clk, nt⟩
      | .ret => C.end' .ret ⟨env, sto, clk, nt⟩
      | .seq a b => match lkQ ans (firstRegion b * 1000 + 998) with
        | some (.join l) => Jn (fun v : VT l => runX P n C ans i (.code b :: k') (instSt (clk + 1) nt l v))
            (fun j => runX P n C ans i (.code a :: .hook (hookOf C.keep (clk + 1) nt l j) :: .code b :: k') ⟨env, sto, clk, nt⟩)
        | _ => runX P n C ans i (.code a :: .code b :: k') ⟨env, sto, clk, nt⟩
      | .cond c a b => match evE env c with
        | .pv (.lit (.bool true)) => runX P n C ans i (.code a :: k') ⟨env, sto, clk, nt⟩
        | .pv (.lit (.bool false)) => runX P n C ans i (.code b :: k') ⟨env, sto, clk, nt⟩
        | .nilq false es => ((∀ p ∈ es, p.cells = []) → runX P n C ans i (.code a :: k') ⟨env, sto, clk, nt⟩) ∧ runX P n C ans i (.code b :: k') ⟨env, sto, clk, nt⟩
        | .nilq true es => runX P n C ans i (.code a :: k') ⟨env, sto, clk, nt⟩ ∧ ((∀ p ∈ es, p.cells = []) → runX P n C ans i (.code b :: k') ⟨env, sto, clk, nt⟩)
        | _ => False
      | .block id c => runX P n C ans i (.code c :: .blk id :: k') ⟨env, sto, clk, nt⟩
      | .exit id => match exitA id k' with
        | some k'' => runX P n C ans i k'' ⟨env, sto, clk, nt⟩
        | none => C.end' (.exit id) ⟨env, sto, clk, nt⟩
      | .region id ops dr => match lkQ ans (id * 1000 + 997) with
        | some (.lens ts) => lensX env sto ts (runX P n C ans (id * 1000) (.ops ops.toList ops.toList dr [] :: k') ⟨env, sto, clk + 1, nt⟩)
        | _ => runX P n C ans (id * 1000) (.ops ops.toList ops.toList dr [] :: k') ⟨env, sto, clk + 1, nt⟩
      | .loop c => match lkQ ans (firstRegion c * 1000 + 999) with
        | some (.loop l) => absorbX C.keep (clk + 1) nt l ⟨env, sto, clk, nt⟩ fun ps v0 => allP ps (Lo (fun L v => runX P n C ans i (.code c :: .hook (hookOf C.keep (clk + 1) nt l L) :: .loop c (clk + 1) :: k') (instSt (clk + 1) nt l v)) v0)
        | some .unroll => runX P n C ans i (.code c :: .loop c 0 :: k') ⟨env, sto, clk, nt⟩
        | _ => False
      | .scope c => match lkQ ans (firstRegion c * 1000 + 996) with
        | some (.scope lab l) => match findLabel c lab with
          | some rest => Jn (fun v : VT l => Lo (fun L v => runX P n C ans i (.code rest :: .scp lab (hookOf C.keep (clk + 1) nt l L) :: k') (instSt (clk + 1) nt l v)) v)
              (fun j => runX P n C ans i (.code c :: .scp lab (hookOf C.keep (clk + 1) nt l j) :: k') ⟨env, sto, clk, nt⟩)
          | none => False
        | _ => False
      | .goto lab => match gotoA lab k' with
        | some h => h ⟨env, sto, clk, nt⟩
        | none => False
      | .rangeFunc g ps assign body => match lkQ ans (firstRegion (.seq assign body) * 1000 + 995), C.rnd, C.cx with
        | some (.rng fn B ansG), false, [] => match seqA (evE env g) ((clk + 1) * 65536 + 65532), fn.body with
          | some (f, args), some c => match okFn fn args.length && C.keep.all (inB B) && !(inB B ((clk + 1) * 65536 + 65532)) && (lk sto ((clk + 1) * 65536 + 65532)).isNone && okCode assign && okCode body with
            | true => Fn_ P f fn (laid args fun args => laid (dropK B env) fun envB => runX P n ⟨false, ((clk + 1) * 65536 + 65532) :: B, [((clk + 1) * 65536 + 65532, ⟨envB, ps.toList, assign, body, nt⟩)], fun j sc => match j with
                | .fin | .ret => match results? P sc.env sc.sto fn.results.toList with
                  | some _ => match lk sc.sto ((clk + 1) * 65536 + 65532) with
                    | some (.lp true false none) => laid (ins ((clk + 1) * 65536 + 65532) .stale sc.sto) fun sto1 => runX P n C ans i k' ⟨envB, sto1, sc.clk, nt⟩
                    | some (.lp true false (some c')) => match okCode c' with
                      | true => laid (ins ((clk + 1) * 65536 + 65532) .stale sc.sto) fun sto1 => runX P n C ans i (.code c' :: k') ⟨envB, sto1, sc.clk, nt⟩
                      | false => False
                    | _ => False
                  | none => False
                | _ => False⟩ ansG 0 [.code c] ⟨envOf 0 args, ins ((clk + 1) * 65536 + 65532) (.lp true false none) sto, clk + 1, fn.ntmps⟩)
            | false => False
          | _, _ => False
        | _, _, _ => False
      | _ => False
    | .blk _ :: k' => runX P n C ans i k' ⟨env, sto, clk, nt⟩
    | .scp _ _ :: k' => runX P n C ans i k' ⟨env, sto, clk, nt⟩
    | .hook h :: _ => h ⟨env, sto, clk, nt⟩
    | .loop c _ :: k' => match lkQ ans (firstRegion c * 1000 + 999) with
      | some .unroll => runX P n C ans i (.code c :: .loop c 0 :: k') ⟨env, sto, clk, nt⟩
      | _ => False
    | .ops _ [] _ _ :: k' => runX P n C ans i k' ⟨env, sto, clk, nt⟩
    | .ops all (o :: rest) dr acc :: k' => match wantedA all env o with
      | some false => putX o.dst nt (.pv (.tuple [])) env fun env => runX P n C ans (i + 1) (.ops all rest dr (if dr then acc ++ [([], [])] else acc) :: k') ⟨env, sto, clk, nt⟩
      | some true => match lkQ ans i with
        | some (.inl fn B ansC) => match calleeA (evE env) o, fn.body with
          | some (f, args), some c => match !dr && okFn fn args.length && C.keep.all (inB B) && cxIn B C.cx with
            | true => Fn_ P f fn (laid args fun args => runX P n ⟨false, B, [], fun j sc => match j with
                | .fin | .ret => match results? P sc.env sc.sto fn.results.toList with
                  | some xs => (single xs).laid fun x => laid (dropK B env) fun env1 => putX o.dst nt x env1 fun env2 => runX P n C ans (i + 1) (.ops all rest false acc :: k') ⟨env2, sc.sto, sc.clk, nt⟩
                  | none => False
                | _ => False⟩ ansC 0 [.code c] ⟨envOf 0 args, sto, clk, fn.ntmps⟩)
            | false => False
          | _, _ => False
        | some (.inlj fn B ansC l) => match calleeA (evE env) o, fn.body with
          | some (f, args), some c => match !dr && okFn fn args.length && C.keep.all (inB B) && cxIn B C.cx with
            | true => Jn (fun v : VT l => runX P n C ans (i + 1) (.ops all rest false acc :: k') (instSt (clk + 1) nt l v)) fun J => Fn_ P f fn (laid args fun args => runX P n ⟨false, B, [], fun j sc => match j with
                | .fin | .ret => match results? P sc.env sc.sto fn.results.toList with
                  | some xs => (single xs).laid fun x => laid (dropK B env) fun env1 => putX o.dst nt x env1 fun env2 => hookOf C.keep (clk + 1) nt l J ⟨env2, sc.sto, sc.clk, nt⟩
                  | none => False
                | _ => False⟩ ansC 0 [.code c] ⟨envOf 0 args, sto, clk, fn.ntmps⟩)
            | false => False
          | _, _ => False
        | some (.yld B ansR) => match yieldA (evE env) o with
          | some (kl, args) => match lkCx C.cx kl, lk sto kl with
            | some cx, some (.lp true false none) => match !dr && C.keep.all (inB B) && cxIn B C.cx && okCode cx.assign && okCode cx.body, putAll cx.nt cx.ps args cx.env with
              | true, some envR => laid envR fun envR => runX P n ⟨true, B, [], fun j sa => match j with
                  | .fin => match lk sa.sto kl with
                    | some (.lp true false none) => laid (ins kl (.lp true true none) sa.sto) fun sto1 => runX P n ⟨true, B, [], fun j sr => match lk sr.sto kl with
                        | some (.lp true true none) => laid (ins kl (.lp true false j.pend) sr.sto) fun sto2 => laid (dropK B env) fun env1 => putX o.dst nt (.pv (.lit (.bool j.pend.isNone))) env1 fun env2 => runX P n C ans (i + 1) (.ops all rest false acc :: k') ⟨env2, sto2, sr.clk, nt⟩
                        | _ => False⟩ ansR 0 [.code cx.body] ⟨sa.env, sto1, sa.clk, sa.nt⟩
                    | _ => False
                  | _ => False⟩ ansR 0 [.code cx.assign] ⟨envR, sto, clk, cx.nt⟩
              | _, _ => False
            | _, _ => False
          | none => False
        | q => opX P q (evE env) sto (keyOf clk o.dst) o fun e ov => e.val.laid fun x => putX o.dst nt x env fun env => match okD all dr o e.reads (keysOf e.mem) 0 acc with
          | true => memX sto e.mem fun sto => runX P n C (ov ++ ans) (i + 1) (.ops all rest dr (if dr then acc ++ [(e.reads, keysOf e.mem)] else acc) :: k') ⟨env, sto, clk, nt⟩
          | false => False
      | none => False) := rfl
end Go.Mir
