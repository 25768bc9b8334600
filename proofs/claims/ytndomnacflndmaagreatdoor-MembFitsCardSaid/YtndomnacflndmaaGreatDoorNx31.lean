/- A run that ends well is true of Go's (lemmas; conditions: what they say). -/
import Derived.Test.YtndomnacflndmaaGreatDoorNx30
set_option linter.all false
set_option linter.unusedVariables false
set_option linter.unusedSimpArgs false
set_option linter.unnecessarySimpa false
namespace Go.Mir
open Go Go.RowKit
variable {P : Program} {μ μ' : Nat → Option KS} {S S' : Nat → Prop} {w w' : World} {σ σ' : Store}
variable [Globs P]

theorem runC_succ (P : Program) [Globs P] (tb : Tbl) (n : Nat) : runC P tb (n + 1) = stepC P tb n (runC P tb n) := rfl

theorem yieldA_drawn {tb : Tbl} {R : Run} {C : CC} {all : List Oper} {o : Oper} {rest : List Oper} {acc : List (List Nat × List Nat)} {k : List It} {env : Env} {sto : Store} {clk nt : Nat} {j : Jmp} {t : St}
    (h : opsK P tb R C all o rest true acc k env sto clk nt = .ok j t) : inPlace P tb env true o = false ∨ wantedA all env o = some false := by
  unfold opsK at h
  rw [wantedF_eq] at h
  split at h
  · rename_i hw; exact .inr hw
  · left
    unfold opK at h
    simp only [evF_eq] at h
    unfold inPlace
    split
    · simp
    · rename_i hc
      rw [hc] at h
      simp only at h
      split
      · rename_i hy; rw [hy] at h; cases h
      · rfl
  · cases h

theorem drawnC {tb : Tbl} (htb : tb.Ok P) {C : CC} {k : List It} {all : List Oper} {j : Jmp} {t : St} : ∀ (rest : List Oper) (acc : List (List Nat × List Nat)) (n : Nat) (s : St), (∀ m, m < n → RunOk P (runC P tb m)) → runC P tb n C (.ops all rest true acc :: k) s = .ok j t →
    ∃ es t' m, Exec P all rest es s t' ∧ m < n ∧ runC P tb m C k t' = .ok j t ∧ t'.clk = s.clk ∧ t'.nt = s.nt ∧ (∀ x ∈ es, x.2.Ok P) ∧
      ∀ (j : Nat) (o : Oper) (e : Eff) (q : Orc), rest[j]? = some o → es[j]? = some (e, q) → okD all true o e.reads (keysOf e.mem) 0 (acc ++ (es.take j).map fun x => (x.1.reads, keysOf x.1.mem)) = true
  | [], acc, n, s, hR, h => by
    cases n with
    | zero => cases h
    | succ n =>
      rw [runC_succ] at h
      exact ⟨[], s, n, .nil, by omega, h, rfl, rfl, fun x hx => by simp at hx, fun j o e q h1 => by simp at h1⟩
  | o :: rest, acc, n, s, hR, h => by
    cases n with
    | zero => cases h
    | succ n =>
      rw [runC_succ] at h
      have h : opsK P tb (runC P tb n) C all o rest true acc k s.env s.sto s.clk s.nt = .ok j t := h
      obtain ⟨q, e, s1, acc', hq, h1, h2, h3, h3', h4, h5, h6⟩ := opsK_step htb (hR n (by omega)) h (yieldA_drawn h)
      rw [h3' rfl] at h4
      obtain ⟨es, t', m', g1, g2, g3, g4, g5, g6, g7⟩ := drawnC htb rest _ n s1 (fun m hm => hR m (by omega)) h4
      refine ⟨(e, q) :: es, t', m', .cons h1 h2 g1, by omega, g3, g4.trans h5, g5.trans h6, fun x hx => ?_, fun j o' e' q' hj he => ?_⟩
      · rcases List.mem_cons.1 hx with rfl | hx
        · exact hq
        · exact g6 x hx
      · cases j with
        | zero =>
          simp only [List.getElem?_cons_zero, Option.some.injEq, Prod.mk.injEq] at hj he
          obtain ⟨rfl, rfl⟩ := he
          subst hj
          simpa using h3
        | succ j =>
          have := g7 j o' e' q' (by simpa using hj) (by simpa using he)
          simpa [List.append_assoc] using this

theorem scopeC_ok {R : List It → St → Res} {lab : Nat} {rest : Code} {m : Nat} {k : List It} {s : St} {j : Jmp} {t : St} (h : scopeC R lab rest m k s = .ok j t) : ∃ m', m = m' + 1 ∧ ∃ j1 s1, R k s = .ok j1 s1 ∧ ((j1 = .goto lab ∧ scopeC R lab rest m' [.code rest] s1 = .ok j t) ∨ ((∀ l, j1 ≠ .goto l) ∧ j1 = j ∧ s1 = t)) := by
  cases m with
  | zero => cases h
  | succ m =>
    refine ⟨m, rfl, ?_⟩
    simp only [scopeC] at h
    split at h
    · rename_i l s1 hr
      split at h
      · rename_i e
        rw [Nat.eq_of_beq_eq_true e] at hr
        exact ⟨_, _, hr, .inl ⟨rfl, h⟩⟩
      · cases h
    · rename_i r hno
      exact ⟨j, t, h, .inr ⟨fun l e => hno l t (by rw [h, e]), rfl, rfl⟩⟩
end Go.Mir
