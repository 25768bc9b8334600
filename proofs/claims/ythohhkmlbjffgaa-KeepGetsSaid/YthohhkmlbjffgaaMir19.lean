/- What the walk of plain values goes by: equations of sums, tests, types (lemmas; no condition). -/
import Derived.Test.YthohhkmlbjffgaaMir18
namespace Go.Mir
open Go Go.RowKit

theorem call_def {E : MEnv} {g : Nat} {ps : List PV} {fn : Func} {c : Code} (hf : E.fn g = some fn) (hb : fn.body = some c) (hn : (ps.map AV.pv).length ≤ fn.ntmps) : call E g ps = match run E g [.code c] { env := envOf 0 (ps.map .pv), sto := [], clk := 0, nt := fn.ntmps } with
    | some t => match results? E.P t.env t.sto fn.results.toList with
      | some xs => (finRV t.sto xs).map (·.1)
      | none => none
    | none => none := by
  unfold call callR
  simp only [hf, hb]
  rw [if_pos hn]
  cases run E g [.code c] { env := envOf 0 (ps.map .pv), sto := [], clk := 0, nt := fn.ntmps } with
  | none => rfl
  | some t => simp only; cases results? E.P t.env t.sto fn.results.toList <;> rfl

theorem call_runN {E : MEnv} {g n : Nat} {ps : List PV} {rs : List RV} (h : (callR E (Mir.runN E n) g (ps.map .pv) [] 0).map (·.1) = some rs) : call E g ps = some rs := by
  unfold call
  rw [Option.map_eq_some_iff] at h ⊢
  obtain ⟨x, h1, h2⟩ := h
  exact ⟨x, callR_mono (runN_run E n) h1, h2⟩

theorem val?_bind {P : Program} {α β : Type} (x : Sem α) (f : α → Sem β) : (x >>= f).val? P = match x.val? P with
    | some a => (f a).val? P
    | none => none := by
  show (Sem.bind x f).val? P = _
  induction x with
  | pure a => rfl
  | program k ih => exact ih P
  | _ => rfl
theorem equalB_val {P : Program} {t : TypeId} {d : Nat} (h : P.underlying t = some .bool) {s u : Bool} : (Op.equalIn (d + 1) t (.bool s) (.bool u)).val? P = some (s == u) := by
  rw [Op.equalIn, val?_bind]
  have : (underlying t).val? P = some .bool := by
    unfold underlying
    rw [val?_bind]
    simp only [program, Sem.val?, h]
    rfl
  rw [this]
  rfl

section
variable (P : Program) (t : TypeId) (x y : Operand) (a b : Int)
/-- A sum, a test, of two numbers. -/
def bop (P : Program) (op : BinOp) (t : TypeId) (x y : Operand) (a b : Value) : Option Value := (do eqGuard op t x y a b; binOp op t a b : Sem Value).val? P
theorem bop_add : bop P .add t x y (.int .i64 a) (.int .i64 b) = some (.int .i64 (IntKind.i64.wrap (a + b))) := rfl
theorem bop_sub : bop P .sub t x y (.int .i64 a) (.int .i64 b) = some (.int .i64 (IntKind.i64.wrap (a - b))) := rfl
theorem bop_mul : bop P .mul t x y (.int .i64 a) (.int .i64 b) = some (.int .i64 (IntKind.i64.wrap (a * b))) := rfl
theorem bop_lss : bop P .lss t x y (.int .i64 a) (.int .i64 b) = some (.bool (decide (a < b))) := rfl
theorem bop_leq : bop P .leq t x y (.int .i64 a) (.int .i64 b) = some (.bool (decide (a ≤ b))) := rfl
theorem bop_gtr : bop P .gtr t x y (.int .i64 a) (.int .i64 b) = some (.bool (decide (b < a))) := rfl
theorem bop_geq : bop P .geq t x y (.int .i64 a) (.int .i64 b) = some (.bool (decide (b ≤ a))) := rfl
theorem bop_eql : bop P .eql t x y (.int .i64 a) (.int .i64 b) = some (.bool (a == b)) := rfl
theorem bop_neq : bop P .neq t x y (.int .i64 a) (.int .i64 b) = some (.bool (a != b)) := rfl
theorem bop_eql8 : bop P .eql t x y (.int .u8 a) (.int .u8 b) = some (.bool (a == b)) := rfl
theorem bop_neq8 : bop P .neq t x y (.int .u8 a) (.int .u8 b) = some (.bool (a != b)) := rfl
theorem bop_rem (h : b ≠ 0) : bop P .rem t x y (.int .i64 a) (.int .i64 b) = some (.int .i64 (a.tmod b)) := by
  have h' : ¬ b = 0 := h
  unfold bop eqGuard binOp Op.intDiv
  simp only [ne_eq, not_true_eq_false, if_false, if_neg h']
  rfl
theorem bop_quo (h : b ≠ 0) : bop P .quo t x y (.int .i64 a) (.int .i64 b) = some (.int .i64 (IntKind.i64.wrap (a.tdiv b))) := by
  have h' : ¬ b = 0 := h
  unfold bop eqGuard binOp Op.intDiv
  simp only [ne_eq, not_true_eq_false, if_false, if_neg h']
  rfl
theorem bop_eqlS (s u : ByteArray) : bop P .eql t x y (.string s) (.string u) = some (.bool (s.toList == u.toList)) := rfl
theorem bop_neqS (s u : ByteArray) : bop P .neq t x y (.string s) (.string u) = some (.bool (!(s.toList == u.toList))) := rfl
theorem bop_eqlB (h : P.underlying t = some .bool) (s u : Bool) : bop P .eql t x y (.bool s) (.bool u) = some (.bool (s == u)) := by
  have e : bop P .eql t x y (.bool s) (.bool u) = ((Op.equalIn (9999 + 1) t (.bool s) (.bool u)) >>= fun b => (pure (.bool b) : Sem Value)).val? P := rfl
  rw [e, val?_bind, equalB_val h]
  rfl
theorem bop_neqB (h : P.underlying t = some .bool) (s u : Bool) : bop P .neq t x y (.bool s) (.bool u) = some (.bool (s != u)) := by
  have e : bop P .neq t x y (.bool s) (.bool u) = ((Op.equalIn (9999 + 1) t (.bool s) (.bool u)) >>= fun b => (pure (.bool !b) : Sem Value)).val? P := rfl
  rw [e, val?_bind, equalB_val h]
  rfl
end

def uop (P : Program) (op : UnOp) (a : Value) : Option Value := (Op.unary op a).val? P
theorem uop_not (P : Program) (b : Bool) : uop P .not (.bool b) = some (.bool !b) := rfl
def cop (P : Program) (s d : TypeId) (a : Value) : Option Value := (convert s d a).val? P
theorem cop_int (P : Program) {s d : TypeId} {ks k : IntKind} (hs : P.underlying s = some (.int ks)) (hd : P.underlying d = some (.int k)) (j : IntKind) (n : Int) : cop P s d (.int j n) = some (.int k (k.wrap n)) := by
  simp [cop, convert, underlying, program, Sem.val?, hs, hd, Bind.bind, Sem.bind, Pure.pure, Conv.intToInt]
end Go.Mir
namespace Go.Mir
open Go Go.RowKit
section
variable {P : Program} {ev : Operand → AV} {σ : Store} {k : Nat} {d : Option Nat} {ty : TypeId} {pos : String} {af : Array Edge} {gd : Option (Nat × Bool)}
theorem prep_move (x : Operand) : prep P ev σ k ⟨d, .move x, ty, pos, af, gd⟩ = some (.eff ⟨ev x, [], []⟩) := rfl
theorem prep_assign (x : Operand) : prep P ev σ k ⟨d, .assign x, ty, pos, af, gd⟩ = some (.eff ⟨ev x, [], []⟩) := rfl
theorem prep_pick (c a b : Operand) : prep P ev σ k ⟨d, .pick c a b, ty, pos, af, gd⟩ = match ev c with
    | .pv (.lit (.bool t)) => some (.eff ⟨if t then ev a else ev b, [], []⟩)
    | _ => none := rfl
theorem prep_alloc (e : TypeId) : prep P ev σ k ⟨d, .alloc e, ty, pos, af, gd⟩ = match sz P e, zr P e with
    | some n, some z => if z.cells.length = n ∧ 0 < n then effO (newE k σ (.bp k 0) (.box true (z.cells.map .pv)) [] []) else none
    | _, _ => none := rfl
theorem prep_box (e : TypeId) (x : Operand) : prep P ev σ k ⟨d, .box e x, ty, pos, af, gd⟩ = match sz P e with
    | some n => if (ev x).cells.length = n ∧ (ev x).cells.all AV.isCell = true then effO (newE k σ (.bp k 0) (.box true (ev x).cells) [] []) else none
    | none => none := rfl
theorem prep_build (t : TypeId) (ps : Array (Nat × Operand)) : prep P ev σ k ⟨d, .build t ps, ty, pos, af, gd⟩ = effO (buildE P t (ps.toList.map fun p => (p.1, ev p.2))) := rfl
theorem prep_buildSlice (t : TypeId) (n : Nat) (ps : Array (Nat × Operand)) : prep P ev σ k ⟨d, .buildSlice t n ps, ty, pos, af, gd⟩ = effO (buildSliceE P t n (ps.toList.map fun p => (p.1, ev p.2)) k σ) := rfl
theorem prep_insert (t : TypeId) (m key x : Operand) : prep P ev σ k ⟨d, .insert t m key x, ty, pos, af, gd⟩ = effO (insertE P t (ev m) (ev key) (ev x) σ) := rfl
theorem prep_mapUpdate (t : TypeId) (m key x : Operand) : prep P ev σ k ⟨d, .mapUpdate t m key x, ty, pos, af, gd⟩ = effO (insertE P t (ev m) (ev key) (ev x) σ) := rfl
theorem prep_load (t : TypeId) (a : Operand) : prep P ev σ k ⟨d, .load t a, ty, pos, af, gd⟩ = effO (loadE P t σ (ev a)) := rfl
theorem prep_store (t : TypeId) (a x : Operand) : prep P ev σ k ⟨d, .store t a x, ty, pos, af, gd⟩ = effO (storeE P t σ (ev a) (ev x)) := rfl
theorem prep_nilCheck (x : Operand) : prep P ev σ k ⟨d, .nilCheck x, ty, pos, af, gd⟩ = match ev x with
    | .bp k off => effO (valE (.bp k off))
    | .rp k i off => effO (valE (.rp k i off))
    | .pv (.ip cs off) => effO (valE (.pv (.ip cs off)))
    | .pv (.fn (.func f) a c) => effO (valE (.pv (.fn (.func f) a c)))
    | .fn (.func f) a c => effO (valE (.fn (.func f) a c))
    | _ => none := rfl
theorem prep_binOp (op : BinOp) (t : TypeId) (x y : Operand) (ty' : TypeId) : prep P ev σ k ⟨d, .binOp op t x y ty', ty, pos, af, gd⟩ = match ev x, ev y with
    | .pv (.lit a), .pv (.lit b) => match bop P op t x y a b with
      | some v => effO (litE v)
      | none => none
    | _, _ => none := rfl
theorem prep_unOp (op : UnOp) (t : TypeId) (x : Operand) : prep P ev σ k ⟨d, .unOp op t x, ty, pos, af, gd⟩ = match ev x with
    | .pv (.lit a) => match uop P op a with
      | some v => effO (litE v)
      | none => none
    | _ => none := rfl
theorem prep_convert (s t : TypeId) (x : Operand) : prep P ev σ k ⟨d, .convert s t x, ty, pos, af, gd⟩ = effO (convE P s t (ev x) σ) := rfl
theorem prep_makeFunc (f : Fn) (a c : Array Operand) : prep P ev σ k ⟨d, .makeFunc f a c, ty, pos, af, gd⟩ = some (.eff ⟨AV.mkFn f (a.toList.map ev) (c.toList.map ev), [], []⟩) := rfl
theorem prep_makeSlice (t : TypeId) (l c : Operand) : prep P ev σ k ⟨d, .makeSlice t l c, ty, pos, af, gd⟩ = effO (makeSliceE P t (ev l) (ev c) k σ) := rfl
theorem prep_slice (t : TypeId) (x : Operand) (lo hi mx : Option Operand) : prep P ev σ k ⟨d, .slice t x lo hi mx, ty, pos, af, gd⟩ = match P.underlying t with
    | some (.slice e) => match sz P e with
      | some n => effO (sliceE n σ (ev x) (lo.map ev) (hi.map ev) (mx.map ev))
      | none => none
    | some .string => match ev x with
      | .pv (.lit (.string s)) => effO (sliceS s (lo.map ev) (hi.map ev) (mx.map ev))
      | _ => none
    | _ => none := rfl
theorem prep_fieldAddr (t : TypeId) (x : Operand) (f : Nat) : prep P ev σ k ⟨d, .fieldAddr t x f, ty, pos, af, gd⟩ = match P.underlying t with
    | some (.struct fs) => match fs[f]? with
      | some fd => match sz P fd.type with
        | some (_ + 1) => match addrAdd fd.offset (ev x) with
          | some y => effO (valE y)
          | none => none
        | _ => none
      | none => none
    | _ => none := rfl
theorem prep_field (t : TypeId) (x : Operand) (f : Nat) : prep P ev σ k ⟨d, .field t x f, ty, pos, af, gd⟩ = match P.underlying t, (ev x).aggCells with
    | some (.struct fs), some cs => match fs[f]? with
      | some fd => effO (partE P fd.type cs fd.offset)
      | none => none
    | _, _ => none := rfl
theorem prep_indexAddr (t : TypeId) (x i : Operand) : prep P ev σ k ⟨d, .indexAddr t x i, ty, pos, af, gd⟩ = effO (indexAddrE P t (ev x) (ev i) σ) := rfl
theorem prep_index (t : TypeId) (x i : Operand) : prep P ev σ k ⟨d, .index t x i, ty, pos, af, gd⟩ = effO (indexE P t (ev x) (ev i)) := rfl
theorem prep_lookup (t : TypeId) (x i : Operand) (ok : Bool) : prep P ev σ k ⟨d, .lookup t x i ok, ty, pos, af, gd⟩ = effO (lookupE P t (ev x) (ev i) ok σ) := rfl
theorem prep_extract (x : Operand) (i : Nat) : prep P ev σ k ⟨d, .extract x i, ty, pos, af, gd⟩ = match ev x with
    | .pv (.tuple vs) => match vs[i]? with
      | some p => effO (valE (.pv p))
      | none => none
    | .tuple vs => match vs[i]? with
      | some p => effO (valE p)
      | none => none
    | _ => none := rfl
theorem prep_callB (b : Builtin) (as : Array Operand) (ts : Array TypeId) : prep P ev σ k ⟨d, .call ⟨.builtin b, as, ts⟩, ty, pos, af, gd⟩ = effO (builtinE P b ts ty (as.toList.map ev) k σ) := rfl
theorem prep_callF (f : Operand) (as : Array Operand) (ts : Array TypeId) : prep P ev σ k ⟨d, .call ⟨.value f, as, ts⟩, ty, pos, af, gd⟩ = match ev f with
    | .pv (.fn (.func f) a cs) => some (.call f (a.map .pv ++ as.toList.map ev ++ cs.map .pv))
    | .fn (.func f) a cs => some (.call f (a ++ as.toList.map ev ++ cs))
    | _ => none := rfl
theorem effO_s (e : Eff) : effO (some e) = some (.eff e) := rfl
theorem effO_n : effO none = none := rfl
end
/-- In a region of one order nothing is kept of what was met. -/
theorem run_acc (E : MEnv) (f : Nat) (k : List It) (all : List Oper) : ∀ (rest : List Oper) (acc acc' : List (List Nat × List Nat)) (s : St), run E f (.ops all rest false acc :: k) s = run E f (.ops all rest false acc' :: k) s
  | [], acc, acc', s => by rw [run_ops_nil, run_ops_nil]
  | o :: rest, acc, acc', s => by
    have ok : ∀ (rd wr : List Nat) (i : Nat) (ac : List (List Nat × List Nat)), okD false o rd wr i ac = true := by
      intro rd wr i ac
      induction ac generalizing i with
      | nil => rfl
      | cons x r ih => obtain ⟨a, b⟩ := x; simp [okD, ih]
    rw [run_op, run_op]
    simp only [stepO]
    cases wantedA all s.env o with
    | none => rfl
    | some b =>
      cases b with
      | false => simp only; cases putE o.dst s.nt (.pv (.tuple [])) s.env with
        | none => rfl
        | some env => exact run_acc E f k all rest _ _ _
      | true =>
        simp only
        cases prep E.P (evE s.env) s.sto (keyOf s.clk o.dst) o with
        | none => rfl
        | some p =>
          simp only
          cases isWild E p with
          | some x =>
            obtain ⟨g, args⟩ := x
            simp only [Bool.false_eq_true, if_false]
            cases wildS E (run E) g args o.dst s with
            | none => rfl
            | some s' => exact run_acc E f k all rest _ _ _
          | none =>
            simp only
            cases effC E (keyOf s.clk o.dst) s.sto p with
            | none => rfl
            | some e =>
              simp only
              cases putE o.dst s.nt e.val s.env with
              | none => rfl
              | some env => simp only [ok, if_true]; exact run_acc E f k all rest _ _ _
/-- One operation, in a region of one order. -/
noncomputable def stepU (E : MEnv) (all : List Oper) (o : Oper) (s : St) : Option St := match wantedA all s.env o with
  | some false => match putE o.dst s.nt (.pv (.tuple [])) s.env with
    | some env => some { s with env }
    | none => none
  | some true => match prep E.P (evE s.env) s.sto (keyOf s.clk o.dst) o with
    | some p => match isWild E p with
      | some (g, args) => wildS E (run E) g args o.dst s
      | none => match effC E (keyOf s.clk o.dst) s.sto p with
        | some e => match putE o.dst s.nt e.val s.env with
          | some env => some { s with env, sto := applyMem s.sto e.mem }
          | none => none
        | none => none
    | none => none
  | none => none
theorem run_opU (E : MEnv) (f : Nat) (k : List It) (s : St) (all : List Oper) (o : Oper) (rest : List Oper) : run E f (.ops all (o :: rest) false [] :: k) s = match stepU E all o s with
    | some s' => run E f (.ops all rest false [] :: k) s'
    | none => none := by
  have ok : ∀ (rd wr : List Nat) (i : Nat) (ac : List (List Nat × List Nat)), okD false o rd wr i ac = true := by
    intro rd wr i ac
    induction ac generalizing i with
    | nil => rfl
    | cons x r ih => obtain ⟨a, b⟩ := x; simp [okD, ih]
  rw [run_op]
  simp only [stepO, stepU]
  cases wantedA all s.env o with
  | none => rfl
  | some b =>
    cases b with
    | false => simp only; cases putE o.dst s.nt (.pv (.tuple [])) s.env with
      | none => rfl
      | some env => exact run_acc E f k all rest _ _ _
    | true =>
      simp only
      cases prep E.P (evE s.env) s.sto (keyOf s.clk o.dst) o with
      | none => rfl
      | some p =>
        simp only
        cases isWild E p with
        | some x =>
          obtain ⟨g, args⟩ := x
          simp only [Bool.false_eq_true, if_false]
          cases wildS E (run E) g args o.dst s with
          | none => rfl
          | some s' => exact run_acc E f k all rest _ _ _
        | none =>
          simp only
          cases effC E (keyOf s.clk o.dst) s.sto p with
          | none => rfl
          | some e =>
            simp only
            cases putE o.dst s.nt e.val s.env with
            | none => rfl
            | some env => simp only [ok, if_true]; exact run_acc E f k all rest _ _ _
end Go.Mir
