/- What is shown of code, is true of Go's (lemmas; conditions: what they say). -/
import Derived.Test.YthcmkipbdgndoaaGreatDoorNx26
set_option linter.all false
set_option linter.unusedVariables false
set_option linter.unusedSimpArgs false
set_option linter.unnecessarySimpa false
namespace Go.Mir
open Go Go.RowKit
variable {P : Program} {μ μ' : Nat → Option KS} {S S' : Nat → Prop} {w w' : World} {σ σ' : Store}
variable [Globs P]

theorem okRefs_mono {B B' : Nat → Bool} (h : ∀ k, B k = true → B' k = true) : ∀ (n : Nat) (x : AV), x.okRefs B n = true → x.okRefs B' n = true
  | 0, x, hx => by simp [AV.okRefs] at hx
  | n + 1, x, hx => by
    have ih := okRefs_mono h n
    have all : ∀ {l : List AV}, l.all (AV.okRefs B n) = true → l.all (AV.okRefs B' n) = true := fun hl => List.all_eq_true.2 fun y hy => ih y (List.all_eq_true.1 hl y hy)
    cases x <;> simp only [AV.okRefs] at hx ⊢ <;> first | exact h _ hx | exact all hx | (simp only [Bool.and_eq_true] at hx ⊢; exact ⟨all hx.1, all hx.2⟩)
theorem dropK_in {B B' : List Nat} (h : ∀ k, inB B k = true → inB B' k = true) (env : Env) : (dropK B env).all (fun y => y.2.okRefs (inB B') deep) = true := by
  rw [List.all_eq_true]
  intro y hy
  obtain ⟨z, _, rfl⟩ := List.mem_map.1 hy
  simp only
  split
  · rename_i hz; exact okRefs_mono h deep _ hz
  · rfl
theorem calleeA_prep {ev : Operand → AV} {k : Nat} {o : Oper} {g : Nat} {args : List AV} (h : calleeA ev o = some (g, args)) : prep P ev σ k o = some (.call g args) := by
  unfold calleeA at h
  split at h
  · rename_i g' as ts hop
    unfold prep prepZ
    simp only [hop]
    split at h
    · rename_i hg; cases h; simp only [hg]
    · rename_i hg; cases h; simp only [hg]
    · cases h
  · cases h
theorem yieldA_run {ev : Operand → AV} {a : Act} (hev : ∀ x, RepA μ S w (ev x) (a.eval x)) {o : Oper} {k l : Nat} {tmps : Array Value} {ps : List Nat} {as bd : Code} {args : List AV} (h : yieldA ev o = some (k, args)) (hl : μ k = some (.loop l tmps ps as bd)) :
    ∃ vs : List Value, PW (RepA μ S w) args vs ∧ (execOp a.eval o).run P w = (Instr.yield l vs.toArray).run P w := by
  unfold yieldA at h
  split at h
  · rename_i g as' ts hop
    split at h
    · rename_i k' hg
      cases h
      have hx := hev g
      rw [hg] at hx
      have e : a.eval g = .func (.yield l) #[] #[] := by
        generalize a.eval g = u at hx
        cases hx with | yl hy => rw [hl] at hy; exact hy
      refine ⟨as'.toList.map a.eval, argsRep hev as'.toList, ?_⟩
      have : Go.resolve a.eval { callee := .value g, args := as', argTypes := ts } o.type = pure { target := .fn (.yield l) #[], args := #[] ++ as'.map a.eval } := by
        unfold Go.resolve; simp [Deferred.ofValue, e]
      simp only [execOp, hop, this]
      have e2 : (as'.toList.map a.eval).toArray = as'.map a.eval := by rw [← Array.toList_map, Array.toArray_toList]
      rw [e2, Sem.run_bind, Sem.run_pure, Result.andThen_ok]
      simp [invoke]
    · cases h
  · cases h
theorem seqA_run {x : AV} {a : Act} {g : Operand} (hx : RepA μ S w x (a.eval g)) {kl f : Nat} {args : List AV} (h : seqA x kl = some (f, args)) (l : Nat) :
    ∃ vs us : List Value, (∀ {μ' S' w'}, Ext μ S w μ' S' w' → YlRep (μ' kl) (.func (.yield l) #[] #[]) → PW (RepA μ' S' w') args (vs ++ [.func (.yield l) #[] #[]] ++ us)) ∧ a.eval g = .func (.func f) vs.toArray us.toArray := by
  unfold seqA at h
  have mono : ∀ {as : List AV} {vs : List Value} {μ' S' w'}, Ext μ S w μ' S' w' → PW (RepA μ S w) as vs → PW (RepA μ' S' w') as vs := fun hx hp => ⟨hp.1, fun j x v h1 h2 => (hp.2 j x v h1 h2).mono hx.keys hx.st hx.mem⟩
  split at h
  · rename_i f' as cs
    cases h
    obtain ⟨vs, us, e, p1, p2⟩ := repA_fnp hx
    exact ⟨vs, us, fun ext hy => ((mono ext p1).append (PW.cons (.yl hy) PW.nil)).append (mono ext p2), e⟩
  · rename_i f' as cs
    cases h
    obtain ⟨vs, us, e, p1, p2⟩ := repA_fn hx
    exact ⟨vs, us, fun ext hy => ((mono ext p1).append (PW.cons (.yl hy) PW.nil)).append (mono ext p2), e⟩
  · cases h
theorem putAll_rep {nt : Nat} : ∀ {ps : List Nat} {xs : List AV} {env env' : Env} {tmps : Array Value} {vs : List Value}, putAll nt ps xs env = some env' → EnvRep μ S w env tmps → tmps.size = nt → PW (RepA μ S w) xs vs →
    EnvRep μ S w env' ((ps.zip vs).foldl (fun t p => t.setIfInBounds p.1 p.2) tmps) ∧ ((ps.zip vs).foldl (fun t p => t.setIfInBounds p.1 p.2) tmps).size = nt ∧ ps.length = vs.length
  | [], [], env, env', tmps, vs, h, he, hn, hp => by
    cases h
    have : vs = [] := by cases vs with
      | nil => rfl
      | cons v r => exact absurd hp.1 (by simp)
    subst this
    exact ⟨he, hn, rfl⟩
  | p :: ps, x :: xs, env, env', tmps, vs, h, he, hn, hp => by
    cases vs with
    | nil => exact absurd hp.1 (by simp)
    | cons v vs =>
      simp only [putAll] at h
      split at h
      · cases h
      · rename_i hb
        have hlt : p < nt := by
          have : ¬ nt ≤ p := fun h' => by rw [Nat.ble_eq_true_of_le h'] at hb; cases hb
          omega
        have hx : RepA μ S w x v := hp.2 0 x v rfl rfl
        have hr : PW (RepA μ S w) xs vs := ⟨by have := hp.1; simpa using this, fun j y u hy hu => hp.2 (j + 1) y u (by simpa using hy) (by simpa using hu)⟩
        have he1 : EnvRep μ S w (ins p x env) (tmps.setIfInBounds p v) := fun t y ht => by
          rw [lk_ins] at ht
          split at ht
          · rename_i e; subst e; cases ht
            exact ⟨v, by rw [Array.getElem?_setIfInBounds_self]; simp [hn, hlt], hx⟩
          · rename_i hne
            obtain ⟨u, hu, hru⟩ := he t y ht
            exact ⟨u, by rw [Array.getElem?_setIfInBounds_ne hne]; exact hu, hru⟩
        obtain ⟨g1, g2, g3⟩ := putAll_rep h he1 (by simpa using hn) hr
        exact ⟨by simpa using g1, by simpa using g2, by simp [g3]⟩
  | [], _ :: _, _, _, _, _, h, _, _, _ => by cases h
  | _ :: _, [], _, _, _, _, h, _, _, _ => by cases h
theorem okFn_spec {fn : Func} {n : Nat} {c : Code} (h : okFn fn n = true) (hb : fn.body = some c) : ¬ fn.name = "runtime.NumGoroutine" ∧ n ≤ fn.ntmps ∧ okCode c = true := by
  unfold okFn at h
  rw [hb] at h
  simp only [Bool.and_eq_true, Bool.not_eq_true'] at h
  exact ⟨by simpa using h.1.1, Nat.le_of_ble_eq_true h.1.2, h.2⟩
theorem lkCx_mem : ∀ {l : List (Nat × Cx)} {k : Nat} {c : Cx}, lkCx l k = some c → (k, c) ∈ l
  | [], k, c, h => by cases h
  | (j, d) :: r, k, c, h => by
    simp only [lkCx] at h
    split at h
    · rename_i e; cases h; rw [Nat.eq_of_beq_eq_true e]; simp
    · exact List.mem_cons_of_mem _ (lkCx_mem h)

/-- A function whose body is gone through: what it does. -/
theorem calls_of_sat {f : Nat} {fn : Func} {c : Code} {args : List AV} {vs : List Value} {B : List Nat} {cx : List (Nat × Cx)} {E : Jmp → St → Prop} {clk : Nat} {R : Ending → World → Prop} (hf : P.funcs[f]? = some fn) (hb : fn.body = some c) (hok : okFn fn args.length = true)
    (hs : Sat P ⟨false, B, cx, E⟩ [.code c] ⟨envOf 0 args, σ, clk, fn.ntmps⟩) (hσ : StoRep μ S w σ) (ha : PW (RepA μ S w) args vs) (hcx : CxOk P μ S w cx)
    (hE : ∀ (j : Jmp) (r : St) (a' : Act) (μ' : Nat → Option KS) (S' : Nat → Prop) (w' : World), (j = .fin ∨ j = .ret) → E j r → StoRep μ' S' w' r.sto → EnvRep μ' S' w' r.env a'.tmps → ExtB B μ S w μ' S' w' → ∃ v, (results fn a'.tmps).run P w' = .ok v w' ∧ R (.returned v) w')
    (hno : ∀ j r, j ≠ .fin → j ≠ .ret → ¬ E j r) : CallsIn (wide none) 0 P f vs.toArray w R ∧ (callFunc f vs.toArray).run P w = .ok (.enter f vs.toArray) w := by
  obtain ⟨h1, h2, h3⟩ := okFn_spec hok hb
  refine ⟨callsIn_of_wp_marks hf hb trivial ?_, by simp [callFunc, hf, h1, hb]⟩
  have hlen : vs.length = args.length := ha.1.symm
  have hw := hs ⟨w.heap.size, []⟩ none μ S w { tmps := vs.toArray ++ Array.replicate (fn.ntmps - vs.toArray.size) undef, defers := [] } rfl (by simp; omega) (Marks.nil (Nat.le_refl _)) hσ (EnvRep.enter ha) hcx
  have hw' : c.wpIn (wide none) 0 P (FinΦ ⟨false, B, cx, E⟩ ⟨w.heap.size, []⟩ μ S w) _ w := hw
  have fin : ∀ (j : Jmp) (a' : Act) (w' : World), (j = .fin ∨ j = .ret) → (∃ r, E j r ∧ Fin B ⟨w.heap.size, []⟩ μ S w r a' w') → LeavesInM (wide none) 0 P fn a'.tmps R a'.defers .returning w' := by
    rintro j a' w' hj ⟨r, hr, μ', S', m1, m2, m3, _, m5⟩
    exact leavesM_ok (S := S') a'.defers w' m1 fun w'' off => hE j r a' μ' S' w'' hj hr (m2.off off) (m3.off off) (m5.off off hσ.slt)
  refine wpIn_mono hw' fun e a' w' hq => ?_
  cases e with
  | normal => exact fin .fin a' w' (.inl rfl) hq
  | ret => exact fin .ret a' w' (.inr rfl) hq
  | exit id => obtain ⟨r, hr, _⟩ := hq; exact absurd hr (hno _ r (by simp) (by simp))
  | goto l => obtain ⟨r, hr, _⟩ := hq; exact absurd hr (hno _ r (by simp) (by simp))
  | panic ch => exact hq.elim
  | outgrown => exact hq.elim

set_option maxHeartbeats 4000000 in
theorem runX_ok : ∀ (n : Nat) (C : Ctx) (ans : List (Nat × Q)) (i : Nat) (k : List It) (s : St), runX P n C ans i k s → P.follows .mixedOrders = true → (∀ x ∈ k, okIt x) → HookOk P C k → cxIn C.keep C.cx = true → Sat P C k s := by
  intro n
  induction n using Nat.strongRecOn with
  | _ n ihs =>
    intro C ans i k s h hmix hok hh hcx
    cases n with
    | zero => exact h.elim
    | succ n =>
      have ih := fun ans i k s h hok hh => ihs n (Nat.lt_succ_self n) C ans i k s h hmix hok hh hcx
      have ihC := fun C ans i k s h hok hh hcx => ihs n (Nat.lt_succ_self n) C ans i k s h hmix hok hh hcx
      have here : ∀ (j : Jmp), C.end' j s → ∀ (n0 : Base) (μ : Nat → Option KS) (S : Nat → Prop) (w : World) (a : Act), a.tmps.size = s.nt → Marks n0 S w a.defers → StoRep μ S w s.sto → EnvRep μ S w s.env a.tmps → ∃ r, C.end' j r ∧ Fin C.keep n0 μ S w r a w :=
        fun j h n0 μ S w a hn hd hσ he => ⟨s, h, μ, S, hd, hσ, he, hn, (Ext.refl μ S w).toB _⟩
      cases k with
      | nil =>
        obtain ⟨env, sto, clk, nt⟩ := s
        exact fun n0 ρ μ S w a hr hn hd hσ he hx => here .fin h n0 μ S w a hn hd hσ he
      | cons x k =>
        have hokk : ∀ y ∈ k, okIt y := fun y hy => hok y (List.mem_cons_of_mem _ hy)
        have hox := hok x (by simp)
        cases x with
        | code c =>
          have hh' : HookOk P C k := hh
          obtain ⟨env, sto, clk, nt⟩ := s
          rw [runX_succ] at h
          cases c with
          | skip => exact fun n0 ρ μ S w a hr hn hd hσ he hx => wpIn_skip (ih ans i k _ h hokk hh' n0 ρ μ S w a hr hn hd hσ he hx)
          | label l => exact fun n0 ρ μ S w a hr hn hd hσ he hx => wpIn_label (ih ans i k _ h hokk hh' n0 ρ μ S w a hr hn hd hσ he hx)
          | ret => exact fun n0 ρ μ S w a hr hn hd hσ he hx => wpIn_ret (WPx_ret (Q := FinΦ C n0 μ S w) (here .ret h n0 μ S w a hn hd hσ he) k)
          | seq c1 c2 =>
            simp only [okIt, okCode, Bool.and_eq_true] at hox
            have glue : Sat P C (.code c1 :: .code c2 :: k) ⟨env, sto, clk, nt⟩ → Sat P C (.code (.seq c1 c2) :: k) ⟨env, sto, clk, nt⟩ := fun hi n0 ρ μ S w a hr hn hd hσ he hx =>
              wpIn_seq (wpIn_mono (hi n0 ρ μ S w a hr hn hd hσ he hx) fun e a w hq => by cases e <;> exact hq)
            have ok2 : ∀ y ∈ (It.code c2 :: k), okIt y := fun y hy => by
              rcases List.mem_cons.1 hy with rfl | hy
              · exact hox.2
              · exact hokk y hy
            simp only at h
            split at h
            · rename_i l hl
              have hJ : ∀ v, runX P n C ans i (.code c2 :: k) (instSt (clk + 1) nt l v) → Sat P C (.code c2 :: k) (instSt (clk + 1) nt l v) := fun v hv =>
                ih ans i _ _ hv ok2 hh'
              have hi := ih ans i _ _ h (fun y hy => by
                simp only [List.mem_cons] at hy
                rcases hy with rfl | rfl | hy
                · exact hox.1
                · trivial
                · exact ok2 y (List.mem_cons.2 hy)) ⟨fun s' hs' => hookOf_sat hcx hs' hJ, hh'⟩
              exact glue fun n0 ρ μ S w a hr hn hd hσ he hx => wpIn_mono (hi n0 ρ μ S w a hr hn hd hσ he hx) fun e a w hq => by simpa only [WPx] using hq
            · exact glue (ih ans i _ _ h (fun y hy => by
                simp only [List.mem_cons] at hy
                rcases hy with rfl | hy
                · exact hox.1
                · exact ok2 y (List.mem_cons.2 hy)) hh')
          | cond c c1 c2 =>
            simp only [okIt, okCode, Bool.and_eq_true] at hox
            have ok1 : ∀ y ∈ (It.code c1 :: k), okIt y := fun y hy => by simp at hy; rcases hy with rfl | hy; exact hox.1; exact hokk y hy
            have ok2 : ∀ y ∈ (It.code c2 :: k), okIt y := fun y hy => by simp at hy; rcases hy with rfl | hy; exact hox.2; exact hokk y hy
            simp only at h
            split at h
            · rename_i hc
              exact fun n0 ρ μ S w a hr hn hd hσ he hx => wpIn_cond_true (by have := he.ev c; rw [hc] at this; exact repA_lit this) (ih ans i _ _ h ok1 hh' n0 ρ μ S w a hr hn hd hσ he hx)
            · rename_i hc
              exact fun n0 ρ μ S w a hr hn hd hσ he hx => wpIn_cond_false (by have := he.ev c; rw [hc] at this; exact repA_lit this) (ih ans i _ _ h ok2 hh' n0 ρ μ S w a hr hn hd hσ he hx)
            · rename_i es hc
              intro n0 ρ μ S w a hr hn hd hσ he hx
              obtain ⟨b, hb, hnil⟩ : ∃ b, a.eval c = .bool b ∧ (b = true → ∀ p ∈ es, p.cells = []) := by
                have := he.ev c; rw [hc] at this
                generalize a.eval c = u at this
                cases this with | nilq h => exact ⟨_, rfl, by simpa using h⟩
              cases b with
              | true => exact wpIn_cond_true hb (ih ans i _ _ (h.1 (hnil rfl)) ok1 hh' n0 ρ μ S w a hr hn hd hσ he hx)
              | false => exact wpIn_cond_false hb (ih ans i _ _ h.2 ok2 hh' n0 ρ μ S w a hr hn hd hσ he hx)
            · rename_i es hc
              intro n0 ρ μ S w a hr hn hd hσ he hx
              obtain ⟨b, hb, hnil⟩ : ∃ b, a.eval c = .bool b ∧ (b = false → ∀ p ∈ es, p.cells = []) := by
                have := he.ev c; rw [hc] at this
                generalize a.eval c = u at this
                cases this with | nilq h => exact ⟨_, rfl, by simpa using h⟩
              cases b with
              | true => exact wpIn_cond_true hb (ih ans i _ _ h.1 ok1 hh' n0 ρ μ S w a hr hn hd hσ he hx)
              | false => exact wpIn_cond_false hb (ih ans i _ _ (h.2 (hnil rfl)) ok2 hh' n0 ρ μ S w a hr hn hd hσ he hx)
            · exact h.elim
          | block id c =>
            have hi := ih ans i _ _ h (fun y hy => by
              simp only [List.mem_cons] at hy
              rcases hy with rfl | rfl | hy
              · exact hox
              · trivial
              · exact hokk y hy) hh'
            exact fun n0 ρ μ S w a hr hn hd hσ he hx => wpIn_block (wpIn_mono (hi n0 ρ μ S w a hr hn hd hσ he hx) fun e a w hq => by cases e <;> exact hq)
          | exit id =>
            simp only at h
            split at h
            · rename_i k' hk'
              have hi := ih ans i k' _ h (fun y hy => hokk y (exit_sub hk' y hy)) (hh'.exit hk')
              exact fun n0 ρ μ S w a hr hn hd hσ he hx => wpIn_exit (WPx_exit hk' (hi n0 ρ μ S w a hr hn hd hσ he hx))
            · rename_i hk'
              exact fun n0 ρ μ S w a hr hn hd hσ he hx => wpIn_exit (WPx_exitNone (Q := FinΦ C n0 μ S w) (here (.exit id) h n0 μ S w a hn hd hσ he) hk')
          | loop c =>
            simp only at h
            split at h
            · rename_i l hl
              obtain ⟨ps, v0, hv0, h⟩ := absorbX_spec h
              obtain ⟨hps, N, hN⟩ := allP_spec h
              have okl : ∀ h, ∀ y ∈ (It.code c :: .hook h :: .loop c (clk + 1) :: k), okIt y := fun h y hy => by
                simp only [List.mem_cons] at hy
                rcases hy with rfl | rfl | rfl | hy
                · exact hox
                · trivial
                · exact hox
                · exact hokk y hy
              have key : ∀ (N : Nat) (v : VT l), itL (fun L v => runX P n C ans i (.code c :: .hook (hookOf C.keep (clk + 1) nt l L) :: .loop c (clk + 1) :: k) (instSt (clk + 1) nt l v)) N v →
                  Sat P C (.code c :: .loop c (clk + 1) :: k) (instSt (clk + 1) nt l v) := by
                intro N
                induction N with
                | zero => intro v hv; exact hv.elim
                | succ N ihN =>
                  intro v hv
                  have hi := ih ans i _ _ hv (okl _) ⟨fun s' hs' => hookOf_sat hcx hs' fun v' hv' => (by
                    have := ihN v' hv'
                    exact fun n0 ρ μ S w a hr hn hd hσ he hx => inLoop_round (wpIn_mono (this n0 ρ μ S w a hr hn hd hσ he hx) fun e a w hq => by cases e <;> exact hq)), hh'⟩
                  exact fun n0 ρ μ S w a hr hn hd hσ he hx => wpIn_mono (hi n0 ρ μ S w a hr hn hd hσ he hx) fun e a w hq => by simpa only [WPx] using hq
              have h1 := Sat.absorb hcx hv0 hps (key N v0 hN)
              exact fun n0 ρ μ S w a hr hn hd hσ he hx => wp_loop_round (wpIn_mono (h1 n0 ρ μ S w a hr hn hd hσ he hx) fun e a w hq => by cases e <;> exact hq)
            · have hi := ih ans i _ _ h (fun y hy => by
                simp only [List.mem_cons] at hy
                rcases hy with rfl | rfl | hy
                · exact hox
                · exact hox
                · exact hokk y hy) hh'
              exact fun n0 ρ μ S w a hr hn hd hσ he hx => wp_loop_round (wpIn_mono (hi n0 ρ μ S w a hr hn hd hσ he hx) fun e a w hq => by cases e <;> exact hq)
            · exact h.elim
          | region id ops dr =>
            simp only [okIt, okCode, Bool.and_eq_true] at hox
            have hpl : ∀ o ∈ ops.toList, o.plainOp = true := fun o ho => List.all_eq_true.1 hox.1 o ho
            have main : ∀ (n0 : Base) (ρ : Option Nat) (μ : Nat → Option KS) (S : Nat → Prop) (w : World) (a : Act), ρ.isSome = C.rnd → a.tmps.size = nt → Marks n0 S w a.defers → StoRep μ S w sto → EnvRep μ S w env a.tmps → CxOk P μ S w C.cx →
                runX P n C ans (id * 1000) (.ops ops.toList ops.toList dr [] :: k) ⟨env, sto, clk + 1, nt⟩ → (Code.region id ops dr).wpIn (wide ρ) 0 P (WPx P ρ (FinΦ C n0 μ S w) (GΦ C.keep n0 μ S w) k) a w := by
              intro n0 ρ μ S w a hr hn hd hσ he hx h
              cases dr with
              | false =>
                have hi := ih ans (id * 1000) _ _ h (fun y hy => by simp at hy; rcases hy with rfl | hy; exact hpl; exact hokk y hy) hh' n0 ρ μ S w a hr hn hd hσ he hx
                refine wpIn_region_listR ?_
                have hi2 : wpListIn P ρ ops.toList.toArray (WPx P ρ (FinΦ C n0 μ S w) (GΦ C.keep n0 μ S w) k) ops.toList a w := hi
                simpa using hi2
              | true =>
                have hlex : Region.lexB .any ops = true := by simpa using hox.2
                simp only [Region.lexB, Bool.and_eq_true] at hlex
                obtain ⟨es, t, m', ans', i', c1, c2, c3, c4, c5, c6, c7⟩ := drawn_chain ops.toList [] n _ _ _ h
                have hout : ¬ LetsOut (WPx P ρ (FinΦ C n0 μ S w) (GΦ C.keep n0 μ S w) k) := fun ⟨a0, w0, h0⟩ => WPx_out (fun _ _ h => h) k a0 w0 h0
                refine wpIn_region_any hmix (wpAny_toIn hout hpl _ _ _ _ ?_)
                have hcomp : ∀ i j oj ei qi ej qj, i < j → ops.toList[j]? = some oj → es[i]? = some (ei, qi) → es[j]? = some (ej, qj) → (∀ e ∈ oj.after, Region.binds .any e = true → e.on ≠ i) → Compat ops.toList[i]? oj ei ej := by
                  intro i j oj ei qi ej qj hij hoj hei hej hno
                  have hd := c7 j oj ej qj hoj hej
                  have hacc : ([] ++ (es.take j).map fun x => (x.1.reads, keysOf x.1.mem))[i]? = some (ei.reads, keysOf ei.mem) := by
                    rw [List.nil_append, List.getElem?_map, List.getElem?_take, if_pos hij, hei]; rfl
                  rcases okD_spec hd i _ hacc with ⟨e, h1, h2, h3⟩ | ⟨h1, h2⟩ | h1
                  · exact absurd (by omega) (hno e h1 h2)
                  rotate_left
                  · exact .inr (by simpa using h1)
                  · refine .inl ⟨fun k hk => ?_, fun k hk => disj_spec h2 k hk⟩
                    have := disj_spec h1 k hk
                    simp only [List.mem_append, not_or] at this
                    exact this
                have hany := AAny_lex (P := P) (Q := fun x => x = t) hcomp ops.toList es 0 (Array.replicate ops.size false) _ t (fun j => by simp) (fun j => by simp) (fun j hj => by omega) (by simpa using hlex.2) c1 rfl
                have := any_ok (ds := a.defers) (t := t) (es := fun i => es[i]?) (fun i e q hi => c6 (e, q) (List.mem_of_getElem? hi)) (Q := WPx P ρ (FinΦ C n0 μ S w) (GΦ C.keep n0 μ S w) k) ops.toList.length (Array.replicate ops.size false) _ μ S w.drew a hany hx.1.drew hn rfl hσ.drew
                  (he.mono (w' := w.drew) (KeysOk.refl μ) (fun _ h => h) (fun _ _ => rfl)) (fun μ' S' w' a' q1 q2 q3 q4 q5 => by
                    have ext : Ext μ S w μ' S' w' := (Ext.drew μ S w).trans q5
                    have hi := ihs m' (by omega) C ans' i' k t c3 hmix hokk hh' hcx n0 ρ μ' S' w' a' hr q1 (by rw [q2]; exact hd.mono ext.st ext.mem ext.size) q3 q4 (hx.ext ext)
                    exact WPx_mono (P := P) (fin_mono (ext.toB _)) (g_mono (ext.toB _)) _ _ _ _ hi)
                simpa using this
            simp only at h
            split at h
            · exact fun n0 ρ μ S w a hr hn hd hσ he hx => main n0 ρ μ S w a hr hn hd hσ he hx (lensX_ok hσ he h)
            · exact fun n0 ρ μ S w a hr hn hd hσ he hx => main n0 ρ μ S w a hr hn hd hσ he hx h
          | rangeFunc g ps assign body =>
            simp only at h
            split at h
            · rename_i fn B ansG hans hrnd hcxe
              split at h
              · rename_i f args c hseq hfb
                split at h
                · rename_i hcond
                  simp only [Bool.and_eq_true, Bool.not_eq_true', Option.isNone_iff_eq_none] at hcond
                  obtain ⟨⟨⟨⟨⟨q1, q2⟩, q3⟩, q4⟩, q5⟩, q6⟩ := hcond
                  obtain ⟨hf, h⟩ := h
                  simp only [laid_eq] at h
                  obtain ⟨kl, hkl⟩ : ∃ kl, kl = (clk + 1) * 65536 + 65532 := ⟨_, rfl⟩
                  simp only [← hkl] at h hseq q3 q4
                  have keepB : ∀ k, k ∈ C.keep → k ∈ B := fun k hk => by
                    have := List.all_eq_true.1 q2 k hk
                    simpa [inB] using this
                  obtain ⟨ok1, ok2, ok3⟩ := okFn_spec q1 hfb
                  have hcxg : cxIn (kl :: B) [(kl, (⟨dropK B env, ps.toList, assign, body, nt⟩ : Cx))] = true := by
                    simp only [cxIn, List.all_cons, List.all_nil, Bool.and_true, Bool.and_eq_true]
                    exact ⟨by simp [inB], dropK_in (fun k hk => by simp only [inB, List.contains_cons, Bool.or_eq_true]; exact .inr hk) env⟩
                  have hs := ihC _ ansG 0 _ _ h (fun y hy => by simp at hy; subst hy; exact ok3) trivial hcxg
                  intro n0 ρ μ S w a hr hn hd hσ he hx
                  obtain rfl : ρ = none := by
                    simp only [hrnd] at hr
                    cases ρ with
                    | none => rfl
                    | some l => cases hr
                  refine wpIn_rangeFunc fun fnid _ => ?_
                  obtain ⟨w1, e1, e2, e3, e4⟩ := lp_new (P := P) fnid a.tmps ps assign body hσ q4
                  obtain ⟨vs, us, hargs, hev⟩ := seqA_run (he.ev g) hseq (w.heap.size + 1)
                  have hargs1 := hargs e3 (by rw [updK_same]; rfl)
                  have extB1 := fun B => e3.toB B
                  have hcx1 : CxOk P (updK μ kl (.loop (w.heap.size + 1) a.tmps ps.toList assign body)) (fun b => S b ∨ b = w.heap.size) w1 [(kl, (⟨dropK B env, ps.toList, assign, body, nt⟩ : Cx))] := ⟨hx.1.mono e3.st e3.mem, fun x hxm => by
                    simp only [List.mem_singleton] at hxm
                    subst hxm
                    exact .inr ⟨_, _, updK_same _ _, he.dropK (extB1 B), hn⟩⟩
                  obtain ⟨k1, k2⟩ := calls_of_sat (R := rangePost (wide none) 0 P (w.heap.size + 1) (WPx P none (FinΦ C n0 μ S w) (GΦ C.keep n0 μ S w) k) { a with defers := [{ target := .collected w.heap.size, args := #[] }] ++ a.defers }) hf hfb q1 hs e2 hargs1 hcx1
                    (fun j r a' μ' S' w' hj hE m2 m3 m5 => by
                      have hE' : ∃ xs, results? P r.env r.sto fn.results.toList = some xs ∧ ((lk r.sto kl = some (.lp true false none) ∧ runX P n C ans i k ⟨dropK B env, ins kl .stale r.sto, r.clk, nt⟩) ∨ ∃ c', lk r.sto kl = some (.lp true false (some c')) ∧ okCode c' = true ∧ runX P n C ans i (.code c' :: k) ⟨dropK B env, ins kl .stale r.sto, r.clk, nt⟩) := by
                        rcases hj with rfl | rfl <;>
                        · simp only at hE
                          split at hE
                          · rename_i xs hxs
                            refine ⟨xs, hxs, ?_⟩
                            split at hE
                            · rename_i hk; exact .inl ⟨hk, hE⟩
                            · rename_i c' hk
                              split at hE
                              · rename_i hoc; exact .inr ⟨c', hk, hoc, hE⟩
                              · exact hE.elim
                            · exact hE.elim
                          · exact hE.elim
                      obtain ⟨xs, hxs, hE'⟩ := hE'
                      obtain ⟨us', hru, _⟩ := results_ok (P := P) (fn := fn) m2 m3 hxs
                      refine ⟨_, hru, ?_⟩
                      have fin : ∀ (p : Option Code) (kk : List It), lk r.sto kl = some (.lp true false p) → Sat P C kk ⟨dropK B env, ins kl .stale r.sto, r.clk, nt⟩ → ∃ w4, (Instr.endLoop (w.heap.size + 1)).run P w' = .ok p w4 ∧ WPx P none (FinΦ C n0 μ S w) (GΦ C.keep n0 μ S w) kk .normal { a with defers := [{ target := .collected w.heap.size, args := #[] }] ++ a.defers } w4 := by
                        intro p kk hk hsat
                        obtain ⟨l', tm', ps', as', bd', f1, w4, μ4, f2, f3, f4⟩ := lp_end (P := P) m2 hk
                        have hl : l' = w.heap.size + 1 := by
                          rcases m5.keys kl _ (by simp) (updK_same _ _) with e | e
                          · rw [f1] at e; cases e; rfl
                          · rw [f1] at e; cases e
                        subst hl
                        refine ⟨w4, f2, ?_⟩
                        have total : ExtB B μ S w μ4 S' w4 := ((extB1 B).trans (m5.mono fun k hk => List.mem_cons_of_mem _ hk)).trans (f4.toB B)
                        have totalK : ExtB C.keep μ S w μ4 S' w4 := total.mono keepB
                        have hD : w4.heap[w.heap.size]? = some (.deferred (some [])) ∧ S' w.heap.size := by
                          have hS1 : S' w.heap.size := m5.st _ (.inr rfl)
                          refine ⟨?_, hS1⟩
                          rw [f4.mem _ hS1, m5.mem _ (.inr rfl), e4]
                        have marks : Marks n0 S' w4 ([{ target := .collected w.heap.size, args := #[] }] ++ a.defers) := hd.cons total.st total.mem total.size hD.2 hD.1
                        have := hsat n0 none μ4 S' w4 { a with defers := [{ target := .collected w.heap.size, args := #[] }] ++ a.defers } (by rw [hrnd]; rfl) hn marks f3 (he.dropK total) (by rw [hcxe]; exact CxOk.nil (hx.1.mono total.st total.mem))
                        exact WPx_mono (fin_mono totalK) (g_mono totalK) _ _ _ _ this
                      rcases hE' with ⟨hk, hE'⟩ | ⟨c', hk, hoc, hE'⟩
                      · obtain ⟨w4, f1, f2⟩ := fin none k hk (ih ans i k _ hE' hokk hh')
                        exact ⟨none, w4, f1, f2⟩
                      · obtain ⟨w4, f1, f2⟩ := fin (some c') (.code c' :: k) hk (ih ans i _ _ hE' (fun y hy => by simp at hy; rcases hy with rfl | hy; exact hoc; exact hokk y hy) hh')
                        exact ⟨some c', w4, f1, f2⟩)
                    (fun j r h1 h2 hE => by cases j <;> first | exact h1 rfl | exact h2 rfl | exact hE)
                  refine ⟨w.heap.size + 1, _, w1, { target := .fn (.func f) us.toArray, args := vs.toArray ++ #[Value.func (.yield (w.heap.size + 1)) #[] #[]] }, w1, f, (vs ++ [Value.func (.yield (w.heap.size + 1)) #[] #[]] ++ us).toArray, w1, e1, ?_, fun _ _ => trivial, ?_, fun h => by simp [wide, Fence.wide] at h, ?_⟩
                  rotate_left 2
                  · exact k1
                  · have hy : a.eval (.const (.func (.yield (w.heap.size + 1)) #[] #[])) = .func (.yield (w.heap.size + 1)) #[] #[] := rfl
                    unfold Go.resolve; simp [Deferred.ofValue, hev, hy]
                  · have e2 : (vs ++ [Value.func (.yield (w.heap.size + 1)) #[] #[]] ++ us).toArray = vs.toArray ++ #[Value.func (.yield (w.heap.size + 1)) #[] #[]] ++ us.toArray := by simp
                    rw [e2] at k2 ⊢
                    simpa [invoke] using k2
                · exact h.elim
              · exact h.elim
            · exact h.elim
          | scope c =>
            simp only at h
            split at h
            · rename_i lab l hl
              split at h
              · rename_i rest hrest
                have okr := findLabel_ok hrest hox
                have oks : ∀ (c' : Code) (g : St → Prop), okCode c' = true → ∀ y ∈ (It.code c' :: .scp lab g :: k), okIt y := fun c' g hc y hy => by
                  simp only [List.mem_cons] at hy
                  rcases hy with rfl | rfl | hy
                  · exact hc
                  · trivial
                  · exact hokk y hy
                let F : (VT l → Prop) → VT l → Prop := fun L v => runX P n C ans i (.code rest :: .scp lab (hookOf C.keep (clk + 1) nt l L) :: k) (instSt (clk + 1) nt l v)
                let HJ : Nat → St → Prop := fun N r => ∃ ps v, Mir.absorb C.keep (clk + 1) nt l r = some (ps, v) ∧ (∀ p ∈ ps, p) ∧ itL F N v
                have ofHook : ∀ N r, hookOf C.keep (clk + 1) nt l (itL F N) r → HJ N r := fun N r hr => by
                  obtain ⟨ps, v, hv, hp⟩ := absorbX_spec hr
                  obtain ⟨q1, q2⟩ := allP_spec hp
                  exact ⟨ps, v, hv, q1, q2⟩
                have ofLo : ∀ r, hookOf C.keep (clk + 1) nt l (fun v => Lo F v) r → ∃ N, HJ N r := fun r hr => by
                  obtain ⟨ps, v, hv, hp⟩ := absorbX_spec hr
                  obtain ⟨q1, N, q2⟩ := allP_spec hp
                  exact ⟨N, ps, v, hv, q1, q2⟩
                have first : Sat P C (.code c :: .scp lab (hookOf C.keep (clk + 1) nt l (fun v => Lo F v)) :: k) ⟨env, sto, clk, nt⟩ := ih ans i _ _ h (oks _ _ hox) hh'
                intro n0 ρ μ S w a hr hn hd hσ he hx
                refine scope_wp hrest (fun N a' w' => ∃ r, HJ N r ∧ ∃ μ' S', Marks n0 S' w' a'.defers ∧ StoRep μ' S' w' r.sto ∧ EnvRep μ' S' w' r.env a'.tmps ∧ a'.tmps.size = r.nt ∧ ExtB C.keep μ S w μ' S' w') (wpIn_mono (first n0 ρ μ S w a hr hn hd hσ he hx) fun e a' w' hq => ?_) fun N a' w' hJ => ?_
                · cases e with
                  | goto l' =>
                    obtain ⟨e1, r, hr, hr2⟩ := hq
                    obtain ⟨N, hN⟩ := ofLo r hr
                    exact ⟨e1, N, r, hN, hr2⟩
                  | _ => exact hq
                · obtain ⟨r, ⟨ps, v, hv, hps, hN⟩, μ', S', hd', hσ', he', hsz, hxx⟩ := hJ
                  cases N with
                  | zero => exact hN.elim
                  | succ N =>
                    have hs : Sat P C (.code rest :: .scp lab (hookOf C.keep (clk + 1) nt l (itL F N)) :: k) r := Sat.absorb hcx hv hps (ih ans i _ _ hN (oks _ _ okr) hh')
                    refine wpIn_mono (hs n0 ρ μ' S' w' a' hr hsz hd' hσ' he' (hx.extB hcx hxx)) fun e a2 w2 hq => ?_
                    have hq := WPx_mono (P := P) (fin_mono hxx) (g_mono hxx) _ _ _ _ hq
                    cases e with
                    | goto l' =>
                      obtain ⟨e1, r2, hr2, hr3⟩ := hq
                      exact ⟨e1, N, Nat.lt_succ_self N, r2, ofHook N r2 hr2, hr3⟩
                    | _ => exact hq
              · exact h.elim
            · exact h.elim
          | goto lab =>
            simp only at h
            split at h
            · rename_i g hg
              exact fun n0 ρ μ S w a hr hn hd hσ he hx => wpIn_goto (WPx_goto hg ⟨_, h, μ, S, hd, hσ, he, hn, (Ext.refl μ S w).toB _⟩)
            · exact h.elim
          | refuse _ => exact h.elim
        | scp lab g =>
          obtain ⟨env, sto, clk, nt⟩ := s
          rw [runX_succ] at h; simp only at h
          have hi := ih ans i k _ h hokk hh
          exact fun n0 ρ μ S w a hr hn hd hσ he hx => hi n0 ρ μ S w a hr hn hd hσ he hx
        | blk id =>
          obtain ⟨env, sto, clk, nt⟩ := s
          exact ih ans i k _ h hokk hh
        | hook hk =>
          obtain ⟨env, sto, clk, nt⟩ := s
          have := hh.1 _ h
          exact fun n0 ρ μ S w a hr hn hd hσ he hx => by simp only [WPx]; exact this n0 ρ μ S w a hr hn hd hσ he hx
        | loop c c0 =>
          obtain ⟨env, sto, clk, nt⟩ := s
          rw [runX_succ] at h; simp only at h
          split at h
          · have hi := ih ans i _ _ h (fun y hy => by
              simp only [List.mem_cons] at hy
              rcases hy with rfl | rfl | hy
              · exact hox
              · exact hox
              · exact hokk y hy) hh
            exact fun n0 ρ μ S w a hr hn hd hσ he hx => inLoop_round (wpIn_mono (hi n0 ρ μ S w a hr hn hd hσ he hx) fun e a w hq => by cases e <;> exact hq)
          · exact h.elim
        | ops all rest dr acc =>
          have hh' : HookOk P C k := hh
          cases dr with
          | true => exact fun n0 ρ μ S w a hr hn hd hσ he hx => trivial
          | false =>
            cases rest with
            | nil =>
              obtain ⟨env, sto, clk, nt⟩ := s
              exact ih ans i k _ h hokk hh'
            | cons o rest =>
              have hpo : o.plainOp = true := hox o (by simp)
              have okr : ∀ acc', ∀ y ∈ (It.ops all rest false acc' :: k), okIt y := fun acc' y hy => by
                simp only [List.mem_cons] at hy
                rcases hy with rfl | hy
                · exact fun o' ho' => hox o' (List.mem_cons_of_mem _ ho')
                · exact hokk y hy
              by_cases hpl : plainQ (lkQ ans i) = true ∨ wantedA all s.env o = some false
              · intro n0 ρ μ S w a hr hn hd hσ he hx
                show wpListIn P ρ all.toArray (WPx P ρ (FinΦ C n0 μ S w) (GΦ C.keep n0 μ S w) k) (o :: rest) a w
                obtain ⟨q, e, s1, acc', ans', hq, h1, h2, _, _, h4, h5, h6⟩ := opsX h hpl
                obtain ⟨env, hp, rfl⟩ := app_parts h2
                have := opA_ok hx.1 hq (a := a) h1 hσ he (K := wpListIn P ρ all.toArray (WPx P ρ (FinΦ C n0 μ S w) (GΦ C.keep n0 μ S w) k) rest) (Q := WPx P ρ (FinΦ C n0 μ S w) (GΦ C.keep n0 μ S w) k) (fun v μ' S' w' r1 r2 r3 => by
                  obtain ⟨e1, e2⟩ := (he.mono r3.keys r3.st r3.mem).put hn r1 hp
                  have hi := ih ans' (i + 1) _ _ h4 (okr _) hh' n0 ρ μ' S' w' _ hr e2 (by rw [put_defers rfl]; exact hd.mono r3.st r3.mem r3.size) r2 e1 (hx.ext r3)
                  exact WPx_mono (P := P) (fin_mono (r3.toB _)) (g_mono (r3.toB _)) _ _ _ _ hi)
                unfold wpListIn
                split
                · rename_i hw; rw [if_pos hw] at this; exact wp_to_In hpo this
                · rename_i hw; rw [if_neg hw] at this; exact this
              · simp only [not_or] at hpl
                obtain ⟨hpq, hpw⟩ := hpl
                obtain ⟨env, sto, clk, nt⟩ := s
                rw [runX_succ] at h; simp only at h
                split at h
                · rename_i hw; exact absurd hw hpw
                · rename_i hw
                  split at h
                  · -- a call that is gone through
                    rename_i fn B ansC hans
                    split at h
                    · rename_i f args c hcal hfb
                      split at h
                      · rename_i hcond
                        simp only [Bool.not_false, Bool.true_and, Bool.and_eq_true] at hcond
                        obtain ⟨⟨q1, q2⟩, q3⟩ := hcond
                        obtain ⟨hf, h⟩ := h
                        simp only [laid_eq] at h
                        have keepB : ∀ k, k ∈ C.keep → k ∈ B := fun k hk => by
                          have := List.all_eq_true.1 q2 k hk
                          simpa [inB] using this
                        obtain ⟨ok1, ok2, ok3⟩ := okFn_spec q1 hfb
                        have hs := ihC _ ansC 0 _ _ h (fun y hy => by simp at hy; subst hy; exact ok3) trivial rfl
                        intro n0 ρ μ S w a hr hn hd hσ he hx
                        show wpListIn P ρ all.toArray (WPx P ρ (FinΦ C n0 μ S w) (GΦ C.keep n0 μ S w) k) (o :: rest) a w
                        obtain ⟨vs, hargs, hrun⟩ := prep_call (P := P) (σ := sto) he.ev (calleeA_prep (P := P) (σ := sto) (k := 0) hcal)
                        obtain ⟨k1, k2⟩ := calls_of_sat (R := fun e w'' => match e with
                            | .returned v => wpListIn P ρ all.toArray (WPx P ρ (FinΦ C n0 μ S w) (GΦ C.keep n0 μ S w) k) rest (a.put o.dst v) w''
                            | .panicked chain => WPx P ρ (FinΦ C n0 μ S w) (GΦ C.keep n0 μ S w) k (.panic chain) a w''
                            | .outgrown => LetsOut (WPx P ρ (FinΦ C n0 μ S w) (GΦ C.keep n0 μ S w) k)) hf hfb q1 hs hσ hargs (CxOk.nil hx.1)
                          (fun j r a' μ' S' w' hj hE m2 m3 m5 => by
                            have hE' : ∃ xs, results? P r.env r.sto fn.results.toList = some xs ∧ putX o.dst nt (single xs) (dropK B env) fun env2 => runX P n C ans (i + 1) (.ops all rest false acc :: k) ⟨env2, r.sto, r.clk, nt⟩ := by
                              rcases hj with rfl | rfl <;>
                              · simp only at hE
                                split at hE
                                · rename_i xs hxs
                                  rw [AV.laid_eq] at hE
                                  exact ⟨xs, hxs, hE⟩
                                · exact hE.elim
                            obtain ⟨xs, hxs, hE'⟩ := hE'
                            obtain ⟨us, hru, hp⟩ := results_ok (P := P) (fn := fn) m2 m3 hxs
                            refine ⟨_, hru, ?_⟩
                            obtain ⟨env2, hput, hE'⟩ := putX_spec hE'
                            obtain ⟨e1, e2⟩ := (he.dropK m5).put hn (single_rep hp) hput
                            have mK := m5.mono keepB
                            have hi := ih ans (i + 1) _ _ hE' (okr _) hh' n0 ρ μ' S' w' _ hr e2 (by rw [put_defers rfl]; exact hd.mono m5.st m5.mem m5.size) m2 e1 (hx.extB q3 m5)
                            exact WPx_mono (P := P) (fin_mono mK) (g_mono mK) _ _ _ _ hi)
                          (fun j r h1 h2 hE => by cases j <;> first | exact h1 rfl | exact h2 rfl | exact hE)
                        unfold wpListIn
                        rw [wantedA_ok he hw, if_pos rfl]
                        refine ⟨fun _ _ => trivial, ?_⟩
                        rw [Oper.semAt_eq _ _ _ (plainOp_spec hpo), hrun, k2, Oper.uponIn_enter]
                        refine ⟨fun h => by simp [wide, Fence.wide] at h, callsIn_wideR.2 ((callsIn_wideR.1 k1).mono fun e w'' he => ?_)⟩
                        cases e <;> exact he
                      · exact h.elim
                    · exact h.elim
                  · -- .. with a join behind it
                    rename_i fn B ansC l hans
                    split at h
                    · rename_i f args c hcal hfb
                      split at h
                      · rename_i hcond
                        simp only [Bool.not_false, Bool.true_and, Bool.and_eq_true] at hcond
                        obtain ⟨⟨q1, q2⟩, q3⟩ := hcond
                        have hJ : ∀ v, runX P n C ans (i + 1) (.ops all rest false acc :: k) (instSt (clk + 1) nt l v) → Sat P C (.ops all rest false acc :: k) (instSt (clk + 1) nt l v) := fun v hv => ih ans (i + 1) _ _ hv (okr _) hh'
                        obtain ⟨hf, h⟩ := h
                        simp only [laid_eq] at h
                        have keepB : ∀ k, k ∈ C.keep → k ∈ B := fun k hk => by
                          have := List.all_eq_true.1 q2 k hk
                          simpa [inB] using this
                        obtain ⟨ok1, ok2, ok3⟩ := okFn_spec q1 hfb
                        have hs := ihC _ ansC 0 _ _ h (fun y hy => by simp at hy; subst hy; exact ok3) trivial rfl
                        intro n0 ρ μ S w a hr hn hd hσ he hx
                        show wpListIn P ρ all.toArray (WPx P ρ (FinΦ C n0 μ S w) (GΦ C.keep n0 μ S w) k) (o :: rest) a w
                        obtain ⟨vs, hargs, hrun⟩ := prep_call (P := P) (σ := sto) he.ev (calleeA_prep (P := P) (σ := sto) (k := 0) hcal)
                        obtain ⟨k1, k2⟩ := calls_of_sat (R := fun e w'' => match e with
                            | .returned v => wpListIn P ρ all.toArray (WPx P ρ (FinΦ C n0 μ S w) (GΦ C.keep n0 μ S w) k) rest (a.put o.dst v) w''
                            | .panicked chain => WPx P ρ (FinΦ C n0 μ S w) (GΦ C.keep n0 μ S w) k (.panic chain) a w''
                            | .outgrown => LetsOut (WPx P ρ (FinΦ C n0 μ S w) (GΦ C.keep n0 μ S w) k)) hf hfb q1 hs hσ hargs (CxOk.nil hx.1)
                          (fun j r a' μ' S' w' hj hE m2 m3 m5 => by
                            have hE' : ∃ xs, results? P r.env r.sto fn.results.toList = some xs ∧ putX o.dst nt (single xs) (dropK B env) fun env2 => hookOf C.keep (clk + 1) nt l (fun v => runX P n C ans (i + 1) (.ops all rest false acc :: k) (instSt (clk + 1) nt l v)) ⟨env2, r.sto, r.clk, nt⟩ := by
                              rcases hj with rfl | rfl <;>
                              · simp only at hE
                                split at hE
                                · rename_i xs hxs
                                  rw [AV.laid_eq] at hE
                                  exact ⟨xs, hxs, hE⟩
                                · exact hE.elim
                            obtain ⟨xs, hxs, hE'⟩ := hE'
                            obtain ⟨us, hru, hp⟩ := results_ok (P := P) (fn := fn) m2 m3 hxs
                            refine ⟨_, hru, ?_⟩
                            obtain ⟨env2, hput, hE'⟩ := putX_spec hE'
                            obtain ⟨e1, e2⟩ := (he.dropK m5).put hn (single_rep hp) hput
                            have mK := m5.mono keepB
                            have hi := hookOf_sat hcx hE' hJ n0 ρ μ' S' w' _ hr e2 (by rw [put_defers rfl]; exact hd.mono m5.st m5.mem m5.size) m2 e1 (hx.extB q3 m5)
                            exact WPx_mono (P := P) (fin_mono mK) (g_mono mK) _ _ _ _ hi)
                          (fun j r h1 h2 hE => by cases j <;> first | exact h1 rfl | exact h2 rfl | exact hE)
                        unfold wpListIn
                        rw [wantedA_ok he hw, if_pos rfl]
                        refine ⟨fun _ _ => trivial, ?_⟩
                        rw [Oper.semAt_eq _ _ _ (plainOp_spec hpo), hrun, k2, Oper.uponIn_enter]
                        refine ⟨fun h => by simp [wide, Fence.wide] at h, callsIn_wideR.2 ((callsIn_wideR.1 k1).mono fun e w'' he => ?_)⟩
                        cases e <;> exact he
                      · exact h.elim
                    · exact h.elim
                  · -- a round
                    rename_i B ansR hans
                    split at h
                    · rename_i kl args hyl
                      split at h
                      · rename_i cx hcxl hlp
                        split at h
                        · rename_i envR hcond hput
                          simp only [Bool.not_false, Bool.true_and, Bool.and_eq_true] at hcond
                          obtain ⟨⟨⟨q1, q2⟩, q3⟩, q4⟩ := hcond
                          simp only [laid_eq] at h
                          have keepB : ∀ k, k ∈ C.keep → k ∈ B := fun k hk => by
                            have := List.all_eq_true.1 q1 k hk
                            simpa [inB] using this
                          have hmem := lkCx_mem hcxl
                          have klB : kl ∈ B := by
                            have := List.all_eq_true.1 q2 _ hmem
                            simp only [Bool.and_eq_true] at this
                            simpa [inB] using this.1
                          have hs1 := ihC _ ansR 0 _ _ h (fun y hy => by simp at hy; subst hy; exact q3) trivial rfl
                          intro n0 ρ μ S w a hr hn hd hσ he hx
                          show wpListIn P ρ all.toArray (WPx P ρ (FinΦ C n0 μ S w) (GΦ C.keep n0 μ S w) k) (o :: rest) a w
                          obtain ⟨l, tmps, ps, as, bd, rec, g1, g2, g3, g4, g5, g6, g7, g8, _⟩ := lp_set hσ hlp
                          obtain ⟨henv, hnt, hps, has, hbd⟩ : EnvRep μ S w cx.env tmps ∧ tmps.size = cx.nt ∧ ps = cx.ps ∧ as = cx.assign ∧ bd = cx.body := by
                            rcases hx.2 _ hmem with e | ⟨l', tm', e, x1, x2⟩
                            · simp only at e; rw [g1] at e; cases e
                            · simp only at e; rw [g1] at e; cases e
                              exact ⟨x1, x2, rfl, rfl, rfl⟩
                          obtain ⟨vs, hargs, hrun⟩ := yieldA_run (P := P) he.ev hyl g1
                          subst hps has hbd
                          obtain ⟨r1, r2, r3⟩ := putAll_rep hput henv hnt hargs
                          have hsize : vs.toArray.size = rec.params.size := by
                            have : rec.params.toList.length = vs.length := by rw [g5, r3]
                            simpa using this.symm
                          unfold wpListIn
                          rw [wantedA_ok he hw, if_pos rfl]
                          refine ⟨fun _ _ => trivial, ?_⟩
                          rw [Oper.semAt_eq _ _ _ (plainOp_spec hpo), hrun, run_yield g2 hsize, Oper.uponIn_round]
                          refine ⟨fun h => by simp [wide, Fence.wide] at h, ?_⟩
                          have etmps : ((rec.params.zip vs.toArray).foldl (fun t (x : Nat × Value) => t.setIfInBounds x.1 x.2) rec.tmps) = (cx.ps.zip vs).foldl (fun t p => t.setIfInBounds p.1 p.2) tmps := by
                            rw [g8, ← g5, ← Array.foldl_toList, Array.toList_zip]
                          refine roundIn_of_wpIn (F := wide ρ) trivial ?_
                          rw [g6, g7]
                          have hw1 := hs1 ⟨w.heap.size, []⟩ (some l) μ S w { tmps := (cx.ps.zip vs).foldl (fun t p => t.setIfInBounds p.1 p.2) tmps, defers := [] } rfl r2 (Marks.nil (Nat.le_refl _)) hσ r1 (CxOk.nil hx.1)
                          have hw1' : cx.assign.wpIn (wide (some l)) 0 P (FinΦ _ ⟨w.heap.size, []⟩ μ S w) _ w := hw1
                          rw [show ((rec.params.zip vs.toArray).foldl (fun tmps (x : Nat × Value) => match x with | (t, a) => tmps.setIfInBounds t a) rec.tmps) = (cx.ps.zip vs).foldl (fun t p => t.setIfInBounds p.1 p.2) tmps from etmps]
                          refine wpIn_mono hw1' fun e1 a1 w1 hq1 => ?_
                          have no1 : ∀ (j : Jmp), j ≠ .fin → ¬ ∃ r, (fun j (sa : St) => match j with
                              | Jmp.fin => match lk sa.sto kl with
                                | some (.lp true false none) => runX P n ⟨true, B, [], fun j sr => match lk sr.sto kl with
                                    | some (.lp true true none) => putX o.dst nt (.pv (.lit (.bool j.pend.isNone))) (dropK B env) fun env2 => runX P n C ans (i + 1) (.ops all rest false acc :: k) ⟨env2, ins kl (.lp true false j.pend) sr.sto, sr.clk, nt⟩
                                    | _ => False⟩ ansR 0 [.code cx.body] ⟨sa.env, ins kl (.lp true true none) sa.sto, sa.clk, sa.nt⟩
                                | _ => False
                              | _ => False) j r ∧ Fin B ⟨w.heap.size, []⟩ μ S w r a1 w1 := fun j hj ⟨r, hr, _⟩ => by
                            cases j <;> first | exact hj rfl | exact hr
                          cases e1 with
                          | normal =>
                            obtain ⟨ra, hra, μ1, S1, n1, n2, n3, n4, n5⟩ := hq1
                            simp only at hra
                            split at hra
                            · rename_i hlp1
                              obtain ⟨l1, tm1, ps1, as1, bd1, rec1, u1, u2, u3, u4, u5, u6, u7, u8, u9⟩ := lp_set n2 hlp1
                              have hl1 : l1 = l := by
                                rcases n5.keys kl _ klB g1 with e | e
                                · rw [u1] at e; cases e; rfl
                                · rw [u1] at e; cases e
                              subst hl1
                              obtain ⟨v1, v2⟩ := u9 { rec1 with state := .busy } true rfl rfl rfl rfl rfl
                              rw [show Blk.lp true true ({ rec1 with state := LoopState.busy } : Loop).pending = Blk.lp true true none from by show Blk.lp true true rec1.pending = _; rw [u4]] at v1
                              refine ⟨_, run_beginRound u2 (by rw [u3]; rfl), ?_⟩
                              have hs2 := ihC _ ansR 0 _ _ hra (fun y hy => by simp at hy; subst hy; exact q4) trivial rfl
                              have hw2 := hs2 ⟨w.heap.size, []⟩ (some l1) μ1 S1 _ a1 rfl n4 (n1.mono v2.st v2.mem v2.size) v1 (n3.mono v2.keys v2.st v2.mem) (CxOk.nil ((hx.1.mono n5.st n5.mem).mono v2.st v2.mem))
                              have hw2' : cx.body.wpIn (wide (some l1)) 0 P (FinΦ _ ⟨w.heap.size, []⟩ μ1 S1 _) a1 _ := hw2
                              refine wpIn_mono hw2' fun e2 a2 w3 hq2 => ?_
                              have endR : ∀ (j : Jmp), (∃ r, (fun j (sr : St) => match lk sr.sto kl with
                                    | some (.lp true true none) => putX o.dst nt (.pv (.lit (.bool (Jmp.pend j).isNone))) (dropK B env) fun env2 => runX P n C ans (i + 1) (.ops all rest false acc :: k) ⟨env2, ins kl (.lp true false (Jmp.pend j)) sr.sto, sr.clk, nt⟩
                                    | _ => False) j r ∧ Fin B ⟨w.heap.size, []⟩ μ1 S1 (w1.putObj l1 (.loop { rec1 with state := .busy })) r a2 w3) →
                                  ∃ v w', (Instr.endRound l1 j.pend).run P w3 = .ok v w' ∧ wpListIn P ρ all.toArray (WPx P ρ (FinΦ C n0 μ S w) (GΦ C.keep n0 μ S w) k) rest (a.put o.dst v) w' := by
                                rintro j ⟨r, hr3, μ2, S2, _, z2, _, _, z5⟩
                                split at hr3
                                · rename_i hlp2
                                  obtain ⟨l2, tm2, ps2, as2, bd2, rec2, y1, y2, y3, y4, y5, y6, y7, y8, y9⟩ := lp_set z2 hlp2
                                  have hl2 : l2 = l1 := by
                                    rcases n5.keys kl _ klB g1 with e | e
                                    · rcases z5.keys kl _ klB e with e' | e'
                                      · rw [y1] at e'; cases e'; rfl
                                      · rw [y1] at e'; cases e'
                                    · rw [u1] at e; cases e
                                  subst hl2
                                  refine ⟨_, _, run_endRound j.pend y2, ?_⟩
                                  obtain ⟨t1, t2⟩ := y9 { rec2 with state := if j.pend.isNone then .ready else .done, pending := j.pend } false (by simp) rfl rfl rfl rfl
                                  obtain ⟨env2, hput2, hE'⟩ := putX_spec hr3
                                  have total : ExtB B μ S w μ2 S2 _ := ((n5.trans (v2.toB B)).trans z5).trans (t2.toB B)
                                  have totalK := total.mono keepB
                                  have hbool : RepA μ2 S2 (w3.putObj l2 (.loop { rec2 with state := if j.pend.isNone then .ready else .done, pending := j.pend })) (.pv (.lit (.bool j.pend.isNone))) (.bool j.pend.isNone) := .pv (.lit rfl)
                                  obtain ⟨o1, o2⟩ := (he.dropK total).put hn hbool hput2
                                  have hi := ih ans (i + 1) _ _ hE' (okr _) hh' n0 ρ μ2 S2 _ _ hr o2 (by rw [put_defers rfl]; exact hd.mono total.st total.mem total.size) t1 o1 (hx.extB q2 total)
                                  exact WPx_mono (P := P) (fin_mono totalK) (g_mono totalK) _ _ _ _ hi
                                · exact hr3.elim
                              cases e2 with
                              | normal => exact endR .fin hq2
                              | ret => exact endR .ret hq2
                              | exit id => exact endR (.exit id) hq2
                              | goto t => exact endR (.goto t) hq2
                              | panic ch => exact hq2.elim
                              | outgrown => exact hq2.elim
                            · exact hra.elim
                          | ret => exact (no1 .ret (by simp) hq1).elim
                          | exit id => exact (no1 (.exit id) (by simp) hq1).elim
                          | goto t => exact (no1 (.goto t) (by simp) hq1).elim
                          | panic ch => exact hq1.elim
                          | outgrown => exact hq1.elim
                        · exact h.elim
                      · exact h.elim
                    · exact h.elim
                  · exfalso
                    rename_i h1 h3 h2
                    apply hpq
                    unfold plainQ
                    split
                    · rename_i hl; exact absurd hl (h1 _ _ _)
                    · rename_i hl; exact absurd hl (h3 _ _ _ _)
                    · rename_i hl; exact absurd hl (h2 _ _)
                    · rfl
                · exact h.elim
end Go.Mir
