/- The machine's equations for a state that is laid open: what follows an open question is not walked (lemmas; no condition). -/
import Derived.Test.YthohhkmlbjffgaaMir20
namespace Go.Mir
open Go Go.RowKit
section
variable (E : MEnv) (f : Nat) (k : List It) (env : Env) (sto : Store) (clk nt : Nat)
theorem runP_nil : run E f [] ⟨env, sto, clk, nt⟩ = some ⟨env, sto, clk, nt⟩ := run_nil E f _
theorem runP_skip : run E f (.code .skip :: k) ⟨env, sto, clk, nt⟩ = run E f k ⟨env, sto, clk, nt⟩ := run_skip E f k _
theorem runP_label (l : Nat) : run E f (.code (.label l) :: k) ⟨env, sto, clk, nt⟩ = run E f k ⟨env, sto, clk, nt⟩ := run_label E f k _ l
theorem runP_ret : run E f (.code .ret :: k) ⟨env, sto, clk, nt⟩ = some ⟨env, sto, clk, nt⟩ := run_ret E f k _
theorem runP_seq (a b : Code) : run E f (.code (.seq a b) :: k) ⟨env, sto, clk, nt⟩ = run E f (.code a :: .code b :: k) ⟨env, sto, clk, nt⟩ := run_seq E f k _ a b
theorem runP_block (id : Nat) (c : Code) : run E f (.code (.block id c) :: k) ⟨env, sto, clk, nt⟩ = run E f (.code c :: .blk id :: k) ⟨env, sto, clk, nt⟩ := run_block E f k _ id c
theorem runP_exit (id : Nat) : run E f (.code (.exit id) :: k) ⟨env, sto, clk, nt⟩ = match exitA id k with
    | some k' => run E f k' ⟨env, sto, clk, nt⟩
    | none => none := run_exit E f k _ id
theorem runP_region (id : Nat) (ops : Array Oper) (dr : Bool) : run E f (.code (.region id ops dr) :: k) ⟨env, sto, clk, nt⟩ = run E f (.ops ops.toList ops.toList dr [] :: k) ⟨env, sto, clk + 1, nt⟩ := run_region E f k _ id ops dr
theorem runP_blk (id : Nat) : run E f (.blk id :: k) ⟨env, sto, clk, nt⟩ = run E f k ⟨env, sto, clk, nt⟩ := run_blk E f k _ id
theorem runP_ops_nil (all : List Oper) (dr : Bool) (acc : List (List Nat × List Nat)) : run E f (.ops all [] dr acc :: k) ⟨env, sto, clk, nt⟩ = run E f k ⟨env, sto, clk, nt⟩ := run_ops_nil E f k _ all dr acc
/-- Which way, once it is known. -/
def way (x : AV) : Option Bool := match x with
  | .pv (.lit (.bool t)) => some t
  | _ => none
theorem runP_cond_t (c : Operand) (a b : Code) (h : way (evE env c) = some true) : run E f (.code (.cond c a b) :: k) ⟨env, sto, clk, nt⟩ = run E f (.code a :: k) ⟨env, sto, clk, nt⟩ := by
  rw [run_cond]
  show (match evE env c with | .pv (.lit (.bool t)) => if t then _ else _ | _ => none) = _
  unfold way at h
  split at h
  · simp only [Option.some.injEq] at h; subst h; simp [*]
  · cases h
theorem runP_cond_f (c : Operand) (a b : Code) (h : way (evE env c) = some false) : run E f (.code (.cond c a b) :: k) ⟨env, sto, clk, nt⟩ = run E f (.code b :: k) ⟨env, sto, clk, nt⟩ := by
  rw [run_cond]
  show (match evE env c with | .pv (.lit (.bool t)) => if t then _ else _ | _ => none) = _
  unfold way at h
  split at h
  · simp only [Option.some.injEq] at h; subst h; simp [*]
  · cases h
theorem runP_opU (all : List Oper) (o : Oper) (rest : List Oper) : run E f (.ops all (o :: rest) false [] :: k) ⟨env, sto, clk, nt⟩ = match stepU E all o ⟨env, sto, clk, nt⟩ with
    | some s' => run E f (.ops all rest false [] :: k) s'
    | none => none := run_opU E f k _ all o rest
theorem runP_opD (all : List Oper) (o : Oper) (rest : List Oper) (acc : List (List Nat × List Nat)) : run E f (.ops all (o :: rest) true acc :: k) ⟨env, sto, clk, nt⟩ = match stepO E all o true acc ⟨env, sto, clk, nt⟩ with
    | some (acc', s') => run E f (.ops all rest true acc' :: k) s'
    | none => none := run_op E f k _ all o rest true acc
end
end Go.Mir
