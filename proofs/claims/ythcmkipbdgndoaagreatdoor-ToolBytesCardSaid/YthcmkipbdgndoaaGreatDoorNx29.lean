/- A run at given arguments: the machine that wants no answers (definitions; no condition). -/
import Derived.Test.YthcmkipbdgndoaaGreatDoorNx33
set_option linter.all false
set_option linter.unusedVariables false
set_option linter.unusedSimpArgs false
set_option linter.unnecessarySimpa false
namespace Go.Mir
open Go Go.RowKit

/-- How a run ends: it was left so, in this state; or it stands (where). -/
inductive Res where
  | ok (j : Jmp) (s : St)
  | bad (l : List Nat)
  | ask (f : Nat) (ps : List PV)
  | ret (rs : List RV)
/-- Where code is; its function's number (to be told where a run stands). -/
structure CC where
  rnd : Bool
  cx : List (Nat × Cx)
  fn : Nat
  z : Bool
abbrev CC.with (C : CC) (B : List Nat) (E : Jmp → St → Prop) : Ctx := ⟨C.rnd, B, C.cx, E⟩

/-- The same, laid open. -/
noncomputable def forced {α β : Type} (l : List α) : (List α → β) → β :=
  List.rec (motive := fun _ => (List α → β) → β) (fun K => K []) (fun x _ ih K => ih fun r' => K (x :: r')) l
theorem forced_eq {α β : Type} : ∀ (l : List α) (K : List α → β), forced l K = K l
  | [], K => rfl
  | x :: r, K => forced_eq r _
/-- Rows by number. -/
noncomputable abbrev lkF {α : Type} (l : List (Nat × α)) (k : Nat) : Option α := lk l k
theorem lkF_eq {α : Type} (l : List (Nat × α)) (k : Nat) : lkF l k = lk l k := rfl
noncomputable abbrev insF {α : Type} (k : Nat) (x : α) (l : List (Nat × α)) : List (Nat × α) := ins k x l
theorem insF_eq {α : Type} (k : Nat) (x : α) (l : List (Nat × α)) : insF k x l = ins k x l := rfl
noncomputable def evF (env : Env) : Operand → AV
  | .tmp t => (lkF env t).getD .bot
  | .const v => match PV.ofValue v with
    | some p => .pv p
    | none => .bot
  | .func f => .pv (.fn (.func f) [] [])
  | .global g => .gp g 0
theorem evF_eq (env : Env) : evF env = evE env := by
  funext x; cases x <;> simp only [evF, evE, lkF_eq] <;> rfl
noncomputable def wantedF (all : List Oper) (env : Env) (o : Oper) : Option Bool := match o.guard with
  | none => some true
  | some (j, want) => match all[j]? with
    | some g => match g.dst with
      | some t => match lkF env t with
        | some (.pv (.lit (.bool b))) => some (b == want)
        | some (.pv (.tuple [])) => some false
        | _ => none
      | none => some false
    | none => some false
theorem wantedF_eq (all : List Oper) (env : Env) (o : Oper) : wantedF all env o = wantedA all env o := by
  simp only [wantedF, wantedA, lkF_eq] <;> rfl
noncomputable def putF (dst : Option Nat) (nt : Nat) (x : AV) (env : Env) (K : Env → Res) : Res := match dst with
  | none => K env
  | some d => match Nat.ble nt d with
    | true => .bad [42]
    | false => forced (insF d x env) K
noncomputable def forcedN {β : Type} (n : Nat) (K : Nat → β) : β := match n with
  | 0 => K 0
  | Nat.succ m => K (Nat.succ m)
theorem forcedN_eq {β : Type} (n : Nat) (K : Nat → β) : forcedN n K = K n := by cases n <;> rfl
noncomputable def forcedI {β : Type} (n : Int) (K : Int → β) : β := match n with
  | .ofNat m => forcedN m fun m => K (.ofNat m)
  | .negSucc m => forcedN m fun m => K (.negSucc m)
theorem forcedI_eq {β : Type} (n : Int) (K : Int → β) : forcedI n K = K n := by cases n <;> simp only [forcedI, forcedN_eq]
noncomputable def forcedB {β : Type} (b : Bool) (K : Bool → β) : β := match b with
  | true => K true
  | false => K false
theorem forcedB_eq {β : Type} (b : Bool) (K : Bool → β) : forcedB b K = K b := by cases b <;> rfl
noncomputable def forcedV {β : Type} (v : Value) (K : Value → β) : β := match v with
  | .int k n => forcedI n fun n => K (.int k n)
  | .bool b => forcedB b fun b => K (.bool b)
  | .float k n => forcedN n fun n => K (.float k n)
  | .complex k n m => forcedN n fun n => forcedN m fun m => K (.complex k n m)
  | v => K v
theorem forcedV_eq {β : Type} (v : Value) (K : Value → β) : forcedV v K = K v := by
  cases v <;> simp only [forcedV, forcedI_eq, forcedB_eq, forcedN_eq]
noncomputable def forcedA {β : Type} (x : AV) (K : AV → β) : β := match x with
  | .pv (.lit v) => forcedV v fun v => K (.pv (.lit v))
  | .pv (.sl f es) => forced es fun es => K (.pv (.sl f es))
  | .pv (.agg cs) => forced cs fun cs => K (.pv (.agg cs))
  | .pv (.tuple cs) => forced cs fun cs => K (.pv (.tuple cs))
  | .ms k off len own => forcedN off fun off => forcedN len fun len => K (.ms k off len own)
  | .rp k i off => forcedN i fun i => forcedN off fun off => K (.rp k i off)
  | .bp k off => forcedN off fun off => K (.bp k off)
  | .agg cs => forced cs fun cs => K (.agg cs)
  | .tuple cs => forced cs fun cs => K (.tuple cs)
  | x => K x
theorem forcedA_eq {β : Type} (x : AV) (K : AV → β) : forcedA x K = K x := by
  cases x <;> first | (simp only [forcedA, forced_eq, forcedN_eq]; done) | skip
  rename_i p; cases p <;> simp only [forcedA, forced_eq, forcedV_eq]
noncomputable def forcedBlk {β : Type} (b : Blk) (K : Blk → β) : β := match b with
  | .box l cs => forced cs fun cs => K (.box l cs)
  | .row l e s es => forced es fun es => K (.row l e s es)
  | .map l es => forced es fun es => K (.map l es)
  | .fmap l es => forced es fun es => K (.fmap l es)
  | b => K b
theorem forcedBlk_eq {β : Type} (b : Blk) (K : Blk → β) : forcedBlk b K = K b := by
  cases b <;> simp only [forcedBlk, forced_eq]
noncomputable def memC {β : Type} (sto : Store) (m : List (Nat × Blk)) (K : Store → β) : β := match m with
  | [] => K sto
  | (k, b) :: r => forcedBlk b fun b => forced (insF k b sto) fun sto => memC sto r K
theorem memC_eq {β : Type} : ∀ (m : List (Nat × Blk)) (sto : Store) (K : Store → β), memC sto m K = K (applyMem sto m)
  | [], sto, K => rfl
  | (k, b) :: r, sto, K => by simp only [memC, forcedBlk_eq, forced_eq, insF_eq, applyMem, memC_eq r]

/-- A call's function and arguments: a method of an interface's value, too. -/
noncomputable def calleeC (P : Program) (ev : Operand → AV) (o : Oper) : Option (Nat × List AV) := match o.op with
  | .call ⟨.invoke r name, as, _⟩ => match methodE P (ev r) name with
    | some (f, p) => some (f, .pv p :: as.toList.map ev)
    | none => none
  | _ => calleeA ev o
/-- A label that stands in code. -/
noncomputable def labelIn : Code → Option Nat
  | .seq a b => match labelIn a with
    | some l => some l
    | none => labelIn b
  | .label l => some l
  | _ => none

/-- A piece with its room told. -/
noncomputable def isClip (o : Oper) : Bool := match o.op with
  | .slice _ _ _ _ (some _) => true
  | _ => false
/-- Is it a struct that goes into a row in its region? -/
noncomputable def intoRow (o : Oper) (rest : List Oper) : Bool := match o.op, o.dst with
  | .build _ _, some d => rest.any fun p => match p.op with
    | .buildSlice _ _ parts => parts.toList.any fun q => match q.2 with
      | .tmp t => Nat.beq t d
      | _ => false
    | _ => false
  | _, _ => false
/-- What an operation does; a struct that is built in a region of whatever order is frozen. -/
noncomputable def effC (P : Program) (z fr : Bool) (ev : Operand → AV) (σ : Store) (k : Nat) (o : Oper) : Option Eff := match prepZ P z ev σ k o with
  | some (.eff e) => match fr with
    | true => match frzE true σ e with
      | some e' => some e'
      | none => some e
    | false => some e
  | _ => match prepZ P (!z) ev σ k o with
    | some (.eff e) => some e
    | _ => none

/-- Known contracts; functions that cut rows of their own short. -/
structure Tbl where
  has : Nat → Bool
  get : Nat → List PV → Option (List RV)
  zs : Nat → Bool
  sel : Nat → Bool

noncomputable def all2 {α : Type} (r : α → α → Bool) : List α → List α → Bool
  | [], [] => true
  | x :: xs, y :: ys => r x y && all2 r xs ys
  | _, _ => false
noncomputable def litB : Value → Value → Bool
  | .bool a, .bool b => a == b
  | .int k a, .int l b => decide (k = l) && decide (a = b)
  | .float k a, .float l b => decide (k = l) && Nat.beq a b
  | .complex k a b, .complex l c d => decide (k = l) && (Nat.beq a c && Nat.beq b d)
  | .string a, .string b => decide (a.data.toList = b.data.toList)
  | .pointer none, .pointer none => true
  | .nilFunc, .nilFunc => true
  | .nilIface, .nilIface => true
  | .map none, .map none => true
  | _, _ => false
/-- Are they the same, as far as it goes? -/
noncomputable def eqP : Nat → PV → PV → Bool
  | 0, _, _ => false
  | n + 1, p, q => match p, q with
    | .lit a, .lit b => litB a b
    | .sl f es, .sl g fs => (f == g) && all2 (eqP n) es fs
    | .ip cs o, .ip ds o' => Nat.beq o o' && all2 (eqP n) cs ds
    | .agg cs, .agg ds => all2 (eqP n) cs ds
    | .tuple cs, .tuple ds => all2 (eqP n) cs ds
    | .fn f a c, .fn g b d => decide (f = g) && (all2 (eqP n) a b && all2 (eqP n) c d)
    | .iface t x, .iface u y => Nat.beq t u && eqP n x y
    | _, _ => false
/-- What is known of calls, one by one. -/
noncomputable def getL : List (Nat × List PV × List RV) → Nat → List PV → Option (List RV)
  | [], _, _ => none
  | (g, qs, rs) :: l, f, ps => match Nat.beq g f with
    | true => match all2 (eqP 20) qs ps with
      | true => some rs
      | false => getL l f ps
    | false => getL l f ps

/-- A function's results at arguments that hang on no memory. -/
noncomputable def callC (P : Program) [Globs P] (tb : Tbl) (R : CC → List It → St → Res) (f : Nat) (ps : List PV) (K : List RV → Res) : Res := match P.funcs[f]? with
  | some fn => match fn.body with
    | some c => match okFnQ fn ps.length with
      | true => match R ⟨false, [], f, tb.zs f⟩ [.code c] ⟨envOf 0 (ps.map .pv), globS P, 0, fn.ntmps⟩ with
        | .ok .fin sc => match results? P sc.env sc.sto fn.results.toList with
          | some xs => match finRV sc.sto xs with
            | some (rs, _) => K rs
            | none => .bad [1, f]
          | none => .bad [2, f]
        | .ok .ret sc => match results? P sc.env sc.sto fn.results.toList with
          | some xs => match finRV sc.sto xs with
            | some (rs, _) => K rs
            | none => .bad [1, f]
          | none => .bad [2, f]
        | .ok _ _ => .bad [3, f]
        | .bad l => .bad (f :: l)
        | .ask g qs => .ask g qs
        | .ret _ => .bad [44]
      | false => .bad [4, f]
    | none => .bad [5, f]
  | none => .bad [6, f]

/-- A scope's code, from its head, and from its label again and again. -/
noncomputable def scopeC (R : List It → St → Res) (lab : Nat) (rest : Code) : Nat → List It → St → Res
  | 0, _, _ => .bad [7]
  | m + 1, k, s => match R k s with
    | .ok (.goto l) s1 => match Nat.beq l lab with
      | true => scopeC R lab rest m [.code rest] s1
      | false => .bad [8]
    | r => r

noncomputable def isPlain : List AV → Bool
  | [] => true
  | .pv _ :: r => isPlain r
  | _ => false


/-- What stays to be done: the run behind it; where it is. -/
abbrev Run := CC → List It → St → Res

/-- An operation's effect is put in its place. -/
noncomputable def effK (R : Run) (C : CC) (all : List Oper) (o : Oper) (rest : List Oper) (dr : Bool) (acc : List (List Nat × List Nat)) (k' : List It) (env : Env) (sto : Store) (clk nt : Nat) (e : Eff) : Res :=
  forcedA e.val fun x => putF o.dst nt x env fun env => match okD all dr o e.reads (keysOf e.mem) 0 acc with
    | true => memC sto e.mem fun sto => R C (.ops all rest dr (if dr then acc ++ [(e.reads, keysOf e.mem)] else acc) :: k') ⟨env, sto, clk, nt⟩
    | false => .bad [39, C.fn, all.length - rest.length]
/-- A call at values that hang on no memory of one's own. -/
noncomputable def conK (P : Program) [Globs P] (tb : Tbl) (R : Run) (C : CC) (all : List Oper) (o : Oper) (rest : List Oper) (dr : Bool) (acc : List (List Nat × List Nat)) (k' : List It) (env : Env) (sto : Store) (clk nt : Nat) (f : Nat) (ks : List Nat) (ps : List PV) : Res :=
  let K := fun rs => match callE (keyOf clk o.dst) sto ks rs with
    | some e => effK R C all o rest dr acc k' env sto clk nt e
    | none => .bad [27]
  match tb.get f ps with
  | some rs => K rs
  | none => match tb.sel f with
    | true => .ask f ps
    | false => callC P tb R f ps K
/-- Behind a call that is gone through. -/
noncomputable def inlE (P : Program) (R : Run) (C : CC) (all : List Oper) (o : Oper) (rest : List Oper) (acc : List (List Nat × List Nat)) (k' : List It) (env : Env) (nt : Nat) (f : Nat) (fn : Func) : Res → Res
  | .ok (.exit _) _ => .bad [29]
  | .ok (.goto _) _ => .bad [29]
  | .bad l => .bad (f :: l)
  | .ask g qs => .ask g qs
  | .ret _ => .bad [44]
  | .ok _ sc => match results? P sc.env sc.sto fn.results.toList with
    | some xs => forcedA (single xs) fun x => putF o.dst nt x env fun env2 => R C (.ops all rest false acc :: k') ⟨env2, sc.sto, sc.clk, nt⟩
    | none => .bad [30, f]
/-- A call that is gone through. -/
noncomputable def inlK (P : Program) [Globs P] (tb : Tbl) (R : Run) (C : CC) (all : List Oper) (o : Oper) (rest : List Oper) (acc : List (List Nat × List Nat)) (k' : List It) (env : Env) (sto : Store) (clk nt : Nat) (f : Nat) (args : List AV) : Res :=
  match P.funcs[f]? with
  | some fn => match fn.body with
    | some c => match okFnQ fn args.length with
      | true => forced args fun args => inlE P R C all o rest acc k' env nt f fn (R ⟨false, [], f, tb.zs f⟩ [.code c] ⟨envOf 0 args, sto, clk, fn.ntmps⟩)
      | false => .bad [31, f]
    | none => .bad [32, f]
  | none => .bad [33, f]
/-- Behind a round. -/
noncomputable def yldE (R : Run) (C : CC) (all : List Oper) (o : Oper) (rest : List Oper) (acc : List (List Nat × List Nat)) (k' : List It) (env : Env) (nt kl : Nat) : Res → Res
  | .ok j sr => match lkF sr.sto kl with
    | some (.lp true true none) => forced (insF kl (.lp true false j.pend) sr.sto) fun sto2 => putF o.dst nt (.pv (.lit (.bool j.pend.isNone))) env fun env2 => R C (.ops all rest false acc :: k') ⟨env2, sto2, sr.clk, nt⟩
    | _ => .bad [34]
  | .bad l => .bad l
  | .ask g qs => .ask g qs
  | .ret _ => .bad [44]
noncomputable def yldA (R : Run) (C : CC) (all : List Oper) (o : Oper) (rest : List Oper) (acc : List (List Nat × List Nat)) (k' : List It) (env : Env) (nt kl : Nat) (body : Code) : Res → Res
  | .ok .fin sa => match lkF sa.sto kl with
    | some (.lp true false none) => forced (insF kl (.lp true true none) sa.sto) fun sto1 => yldE R C all o rest acc k' env nt kl (R ⟨true, [], C.fn, C.z⟩ [.code body] ⟨sa.env, sto1, sa.clk, sa.nt⟩)
    | _ => .bad [35]
  | .ok _ _ => .bad [36]
  | .bad l => .bad l
  | .ask g qs => .ask g qs
  | .ret _ => .bad [44]
/-- A round of a range over a function. -/
noncomputable def yldK (R : Run) (C : CC) (all : List Oper) (o : Oper) (rest : List Oper) (acc : List (List Nat × List Nat)) (k' : List It) (env : Env) (sto : Store) (clk nt : Nat) (kl : Nat) (args : List AV) : Res :=
  match lkCx C.cx kl, lkF sto kl with
  | some cx, some (.lp true false none) => match okCodeQ cx.assign && okCodeQ cx.body, putAll cx.nt cx.ps args cx.env with
    | true, some envR => forced envR fun envR => yldA R C all o rest acc k' env nt kl cx.body (R ⟨true, [], C.fn, C.z⟩ [.code cx.assign] ⟨envR, sto, clk, cx.nt⟩)
    | _, _ => .bad [37]
  | _, _ => .bad [38]
/-- An operation that is wanted. -/
noncomputable def opK (P : Program) [Globs P] (tb : Tbl) (R : Run) (C : CC) (all : List Oper) (o : Oper) (rest : List Oper) (dr : Bool) (acc : List (List Nat × List Nat)) (k' : List It) (env : Env) (sto : Store) (clk nt : Nat) : Res :=
  match calleeC P (evF env) o with
  | some (f, args) => match dr || isPlain args || tb.has f with
    | true => match mapR (resolve sto deep) args with
      | some (ps, ks) => forced ps fun ps => conK P tb R C all o rest dr acc k' env sto clk nt f ks ps
      | none => .bad [28, C.fn, all.length - rest.length]
    | false => inlK P tb R C all o rest acc k' env sto clk nt f args
  | none => match yieldA (evF env) o with
    | some (kl, args) => match dr with
      | false => yldK R C all o rest acc k' env sto clk nt kl args
      | true => .bad [43]
    | none => match effC P (C.z || isClip o) (dr && intoRow o rest) (evF env) sto (keyOf clk o.dst) o with
      | some e => effK R C all o rest dr acc k' env sto clk nt e
      | none => .bad [40, C.fn, all.length - rest.length, clk]
noncomputable def opsK (P : Program) [Globs P] (tb : Tbl) (R : Run) (C : CC) (all : List Oper) (o : Oper) (rest : List Oper) (dr : Bool) (acc : List (List Nat × List Nat)) (k' : List It) (env : Env) (sto : Store) (clk nt : Nat) : Res :=
  match wantedF all env o with
  | some false => putF o.dst nt (.pv (.tuple [])) env fun env => R C (.ops all rest dr (if dr then acc ++ [([], [])] else acc) :: k') ⟨env, sto, clk, nt⟩
  | some true => opK P tb R C all o rest dr acc k' env sto clk nt
  | none => .bad [41, C.fn]
/-- Behind a scope. -/
noncomputable def scopeE (R : Run) (C : CC) (k' : List It) : Res → Res
  | .ok .fin s => R C k' s
  | .ok .ret s => .ok .ret s
  | .ok (.exit id) s => match exitA id k' with
    | some k'' => R C k'' s
    | none => .ok (.exit id) s
  | .ok (.goto _) _ => .bad [11]
  | .bad l => .bad l
  | .ask g qs => .ask g qs
  | .ret _ => .bad [44]
/-- Behind a range over a function. -/
noncomputable def rngE (P : Program) (R : Run) (C : CC) (k' : List It) (nt f kl : Nat) (fn : Func) (envB : Env) : Res → Res
  | .ok (.exit _) _ => .bad [14]
  | .ok (.goto _) _ => .bad [14]
  | .bad l => .bad (f :: l)
  | .ask g qs => .ask g qs
  | .ret _ => .bad [44]
  | .ok _ sc => match results? P sc.env sc.sto fn.results.toList with
    | some _ => match lkF sc.sto kl with
      | some (.lp true false none) => forced (insF kl .stale sc.sto) fun sto1 => R C k' ⟨envB, sto1, sc.clk, nt⟩
      | some (.lp true false (some c')) => match okCodeQ c' with
        | true => forced (insF kl .stale sc.sto) fun sto1 => R C (.code c' :: k') ⟨envB, sto1, sc.clk, nt⟩
        | false => .bad [15]
      | _ => .bad [16]
    | none => .bad [17]
noncomputable def rngK (P : Program) [Globs P] (tb : Tbl) (R : Run) (C : CC) (k' : List It) (env : Env) (sto : Store) (clk nt : Nat) (ps : List Nat) (assign body : Code) (f kl : Nat) (args : List AV) : Res :=
  match P.funcs[f]? with
  | some fn => match fn.body with
    | some c => match okFnQ fn args.length && (lkF sto kl).isNone && okCodeQ assign && okCodeQ body with
      | true => forced args fun args => rngE P R C k' nt f kl fn env (R ⟨false, [(kl, ⟨env, ps, assign, body, nt⟩)], f, tb.zs f⟩ [.code c] ⟨envOf 0 args, insF kl (.lp true false none) sto, clk + 1, fn.ntmps⟩)
      | false => .bad [18]
    | none => .bad [19]
  | none => .bad [20]
/-- A call that comes behind all others of its region, whichever order is picked: it can be told apart. -/
noncomputable def edgeM (m : Nat) : List Edge → Nat
  | [] => m
  | e :: r => match Region.binds .any e with
    | true => edgeM (Nat.lor m (Nat.shiftLeft 1 e.on)) r
    | false => edgeM m r
noncomputable def ancFrom (all : List Oper) : Nat → Nat → Bool
  | 0, _ => true
  | i + 1, m => match Nat.beq (Nat.land (Nat.shiftRight m i) 1) 1, all[i]? with
    | true, some o => ancFrom all i (edgeM m o.after.toList)
    | _, _ => false
noncomputable def isCallV (o : Oper) : Bool := match o.op with
  | .call ⟨.value _, _, _⟩ => true
  | _ => false
noncomputable def tailS (l : List Oper) : Option (List Oper × Oper) := match l.reverse with
  | [] => none
  | o :: r => match isCallV o && ancFrom l (r.length + 1) (Nat.shiftLeft 1 r.length) with
    | true => some (r.reverse, o)
    | false => none
/-- A step of a run: R is the run behind it. -/
noncomputable def codeK (P : Program) [Globs P] (tb : Tbl) (n : Nat) (R : Run) (C : CC) (k' : List It) (env : Env) (sto : Store) (clk nt : Nat) : Code → Res
  | .skip => R C k' ⟨env, sto, clk, nt⟩
  | .label _ => R C k' ⟨env, sto, clk, nt⟩
  | .ret => .ok .ret ⟨env, sto, clk, nt⟩
  | .seq a b => R C (.code a :: .code b :: k') ⟨env, sto, clk, nt⟩
  | .cond c a b => match evF env c with
    | .pv (.lit (.bool true)) => R C (.code a :: k') ⟨env, sto, clk, nt⟩
    | .pv (.lit (.bool false)) => R C (.code b :: k') ⟨env, sto, clk, nt⟩
    | _ => .bad [10]
  | .block id c => R C (.code c :: .blk id :: k') ⟨env, sto, clk, nt⟩
  | .exit id => match exitA id k' with
    | some k'' => R C k'' ⟨env, sto, clk, nt⟩
    | none => .ok (.exit id) ⟨env, sto, clk, nt⟩
  | .region _ ops dr => match dr with
    | false => R C (.ops ops.toList ops.toList false [] :: k') ⟨env, sto, clk + 1, nt⟩
    | true => match tailS ops.toList with
      | some (pre, o) => R C (.ops ops.toList pre true [] :: .ops ops.toList [o] false [] :: k') ⟨env, sto, clk + 1, nt⟩
      | none => R C (.ops ops.toList ops.toList true [] :: k') ⟨env, sto, clk + 1, nt⟩
  | .loop c => R C (.code c :: .loop c 0 :: k') ⟨env, sto, clk, nt⟩
  | .scope c => match labelIn c with
    | some lab => match findLabel c lab with
      | some rest => scopeE R C k' (scopeC (R C) lab rest n [.code c] ⟨env, sto, clk, nt⟩)
      | none => .bad [12]
    | none => .bad [13]
  | .goto l => .ok (.goto l) ⟨env, sto, clk, nt⟩
  | .rangeFunc g ps assign body => match C.rnd, C.cx with
    | false, [] => match seqA (evF env g) ((clk + 1) * 65536 + 65532) with
      | some (f, args) => forcedN ((clk + 1) * 65536 + 65532) fun kl => rngK P tb R C k' env sto clk nt ps.toList assign body f kl args
      | none => .bad [21]
    | _, _ => .bad [22]
  | _ => .bad [23]
noncomputable def stepC (P : Program) [Globs P] (tb : Tbl) (n : Nat) (R : Run) (C : CC) (k : List It) (s : St) : Res := match k with
  | [] => .ok .fin s
  | .code c :: k' => codeK P tb n R C k' s.env s.sto s.clk s.nt c
  | .blk _ :: k' => R C k' s
  | .scp _ _ :: _ => .bad [24]
  | .hook _ :: _ => .bad [25]
  | .loop c _ :: k' => R C (.code c :: .loop c 0 :: k') s
  | .ops _ [] _ _ :: k' => R C k' s
  | .ops all (o :: rest) dr acc :: k' => opsK P tb R C all o rest dr acc k' s.env s.sto s.clk s.nt
/-- A run. -/
noncomputable def runC (P : Program) [Globs P] (tb : Tbl) (n : Nat) : CC → List It → St → Res :=
  Nat.rec (motive := fun _ => CC → List It → St → Res) (fun _ _ _ => .bad [9]) (fun n ih => stepC P tb n ih) n
/-- A function at arguments, with what is known of others. -/
noncomputable def Tbl.plus (tb : Tbl) (l : List (Nat × List PV × List RV)) : Tbl := ⟨fun f => tb.has f, fun f ps => match getL l f ps with
  | some rs => some rs
  | none => tb.get f ps, tb.zs, tb.sel⟩
noncomputable def tryC (P : Program) [Globs P] (tb : Tbl) (n f : Nat) (ps : List PV) : Res := callC P tb (runC P tb n) f ps .ret
end Go.Mir
