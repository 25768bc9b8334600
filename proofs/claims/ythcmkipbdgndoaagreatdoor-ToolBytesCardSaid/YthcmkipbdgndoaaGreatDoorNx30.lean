/- A run that ends well is true of Go's (lemmas; conditions: what they say). -/
import Derived.Test.YthcmkipbdgndoaaGreatDoorNx29
set_option linter.all false
set_option linter.unusedVariables false
set_option linter.unusedSimpArgs false
set_option linter.unnecessarySimpa false
namespace Go.Mir
open Go Go.RowKit
variable {P : Program} {μ μ' : Nat → Option KS} {S S' : Nat → Prop} {w w' : World} {σ σ' : Store}
variable [Globs P]

theorem lk_memKeys {α : Type} : ∀ {l : List (Nat × α)} {k : Nat}, lk l k ≠ none → k ∈ l.map (·.1)
  | [], k, h => absurd rfl h
  | (j, y) :: r, k, h => by
    rw [lk_cons] at h
    by_cases e : j = k
    · simp [e]
    · rw [if_neg e] at h
      exact List.mem_cons_of_mem _ (lk_memKeys h)
/-- What holds all names, holds whatever names. -/
theorem ExtB.all (hσ : StoRep μ S w σ) {B : List Nat} (hB : ∀ k ∈ σ.map (·.1), k ∈ B) (h : ExtB B μ S w μ' S' w') : Ext μ S w μ' S' w' :=
  ⟨fun k m hk => h.keys k m (hB k (lk_memKeys fun e => by rw [hσ.dom k e] at hk; cases hk)) hk, h.st, h.mem, h.frame, h.own', h.st', h.size, h.os, h.tape, h.output⟩
theorem EnvRep.ext {env : Env} {tmps : Array Value} (h : EnvRep μ S w env tmps) (hx : Ext μ S w μ' S' w') : EnvRep μ' S' w' env tmps := h.mono hx.keys hx.st hx.mem

/-- Known contracts are true. -/
noncomputable def Tbl.Ok (P : Program) [Globs P] (tb : Tbl) : Prop := ∀ f ps rs, tb.get f ps = some rs → Ct P f ps rs

theorem putF_spec {dst : Option Nat} {nt : Nat} {x : AV} {env : Env} {K : Env → Res} {j : Jmp} {t : St} (h : putF dst nt x env K = .ok j t) : ∃ env', putE dst nt x env = some env' ∧ K env' = .ok j t := by
  unfold putF at h
  split at h
  · exact ⟨_, rfl, h⟩
  · rename_i d
    split at h
    · cases h
    · rename_i hb
      have hlt : d < nt := by
        have : ¬ nt ≤ d := fun h' => by rw [Nat.ble_eq_true_of_le h'] at hb; cases hb
        omega
      rw [forced_eq, insF_eq] at h
      exact ⟨_, by simp only [putE]; rw [if_pos hlt], h⟩

/-- From a run of a function's code to its contract. -/
theorem ctP_of_sat {g : Nat} {fn : Func} {c : Code} {ps : List PV} {Φ : List RV → Prop} (hf : P.funcs[g]? = some fn)
    (hb : fn.body = some c) (hx : okFn fn ps.length = true)
    (hs : Sat P ⟨false, [], [], liftE (endX P fn.results.toList Φ)⟩ [.code c] ⟨envOf 0 (ps.map .pv), globS P, 0, fn.ntmps⟩) : CtP P g ps Φ := by
  intro S w vs hS hgl ha
  have hσ := globS_rep hgl hS
  have ha' : PW (RepA (globμ P) S w) (ps.map .pv) vs := ⟨by simpa using ha.1, fun j x v hx hv => by
    rw [List.getElem?_map, Option.map_eq_some_iff] at hx
    obtain ⟨p, hp, rfl⟩ := hx
    exact .pv (ha.2 j p v hp hv)⟩
  obtain ⟨k1, k2⟩ := calls_of_sat (R := fun e w' => ∃ S' rs us bs, Φ rs ∧ e = .returned (resVal us) ∧ RVs S' w' rs us bs ∧ Grown S w S' w' ∧ ∀ b ∈ bs, ¬ S' b ∧ w.heap.size ≤ b ∧ b < w'.heap.size) hf hb (by rw [List.length_map]; exact hx) hs hσ ha' (CxOk.nil hgl)
    (fun j r a' μ1 S1 w' hj hE hs1 he1 hx1 => by
      have hr : endX P fn.results.toList Φ r := by rcases hj with rfl | rfl <;> exact hE
      unfold endX at hr
      split at hr
      · rename_i xs hxs
        split at hr
        · rename_i rv σ1 hrv
          obtain ⟨us, hru, hp⟩ := results_ok (P := P) (fn := fn) hs1 he1 hxs
          obtain ⟨μ2, S2, bs, g1, g2, g3, g4⟩ := finRV_ok hs1 hp hrv
          have hx2 := hx1.trans (g2.toB _)
          refine ⟨_, hru, S2, rv, us, bs, hr, rfl, g3, ⟨hx2.st, fun b hb => ?_, g1.slt, fun b hb => hx2.frame b hb (fun _ h => globμ_owns h), hx2.size, hx2.os, hx2.tape, hx2.output⟩, fun b hb => ?_⟩
          · rcases hx2.st' b hb with h | ⟨j, h⟩ | h
            · exact .inl h
            · exact (globμ_owns h).elim
            · exact .inr h
          · obtain ⟨q1, q2, ⟨j, q3⟩, q4⟩ := g4 b hb
            refine ⟨q1, ?_, q4⟩
            rcases hx1.own' j b q3 with ⟨_, h⟩ | h
            · exact (globμ_owns h).elim
            · exact h
        · exact hr.elim
      · exact hr.elim)
    (fun j r h1 h2 hE => by cases j <;> first | exact h1 rfl | exact h2 rfl | exact hE)
  exact ⟨callsIn_wideR.1 k1, k2⟩

/-- What is true of a run of so many steps. -/
noncomputable def noHook : List It → Prop
  | [] => True
  | .hook _ :: _ => False
  | .scp _ _ :: _ => False
  | _ :: k => noHook k
theorem noHook.exit {id : Nat} : ∀ {k k' : List It}, exitA id k = some k' → noHook k → noHook k'
  | [], k', h, _ => by cases h
  | x :: k, k', h, hn => by
    cases x with
    | blk id' =>
      simp only [exitA] at h
      split at h
      · cases h; exact hn
      · exact noHook.exit h hn
    | code c => exact noHook.exit (k := k) h hn
    | loop c c0 => exact noHook.exit (k := k) h hn
    | ops a b c d => exact noHook.exit (k := k) h hn
    | hook _ => exact hn.elim
    | scp _ _ => exact hn.elim

noncomputable def RunOk (P : Program) [Globs P] (R : Run) : Prop := ∀ (C : CC) (k : List It) (s : St) (j : Jmp) (t : St), R C k s = .ok j t → (∀ x ∈ k, okIt x) → noHook k → ∀ (B : List Nat) (E : Jmp → St → Prop), E j t → Sat P (C.with B E) k s

/-- How a run may end well. -/
noncomputable def Res.good : Res → Prop
  | .ok _ _ => True
  | .ret _ => True
  | _ => False
theorem callC_ok {tb : Tbl} {R : Run} (hR : RunOk P R) {f : Nat} {ps : List PV} {K : List RV → Res} {r : Res} (hr0 : r.good) (h : callC P tb R f ps K = r) : ∃ rs, Ct P f ps rs ∧ K rs = r := by
  have bad : ∀ {l : List Nat}, Res.bad l = r → False := fun e => by subst e; exact hr0
  have ask : ∀ {g : Nat} {qs : List PV}, Res.ask g qs = r → False := fun e => by subst e; exact hr0
  unfold callC at h
  split at h
  · rename_i fn hf
    split at h
    · rename_i c hb
      split at h
      · rename_i hok
        have ok3 := (okFn_spec (okFnQ_ok hok) hb).2.2
        have key : ∀ (j0 : Jmp) (sc : St), (j0 = .fin ∨ j0 = .ret) → R ⟨false, [], f, tb.zs f⟩ [.code c] ⟨envOf 0 (ps.map .pv), globS P, 0, fn.ntmps⟩ = .ok j0 sc → ∀ xs rs σ1, results? P sc.env sc.sto fn.results.toList = some xs → finRV sc.sto xs = some (rs, σ1) → Ct P f ps rs := by
          intro j0 sc hj hr xs rs σ1 hxs hfin
          refine Ct.ofP (CtP.mono (ctP_of_sat (Φ := fun r => r = rs) hf hb (okFnQ_ok hok) ?_) fun r e => e ▸ RvsLe.refl _)
          refine hR _ _ _ _ _ hr (fun x hx => by simp at hx; subst hx; exact ok3) trivial [] (liftE (endX P fn.results.toList fun r => r = rs)) ?_
          have : endX P fn.results.toList (fun r => r = rs) sc := by unfold endX; rw [hxs]; simp only [hfin]
          rcases hj with rfl | rfl <;> exact this
        split at h
        · rename_i sc hr
          split at h
          · rename_i xs hxs
            split at h
            · rename_i rs σ1 hfin
              exact ⟨rs, key _ _ (.inl rfl) hr xs rs σ1 hxs hfin, h⟩
            · exact (bad h).elim
          · exact (bad h).elim
        · rename_i sc hr
          split at h
          · rename_i xs hxs
            split at h
            · rename_i rs σ1 hfin
              exact ⟨rs, key _ _ (.inr rfl) hr xs rs σ1 hxs hfin, h⟩
            · exact (bad h).elim
          · exact (bad h).elim
        · exact (bad h).elim
        · exact (bad h).elim
        · exact (ask h).elim
        · exact (bad h).elim
      · exact (bad h).elim
    · exact (bad h).elim
  · exact (bad h).elim

theorem effC_did {z fr : Bool} {ev : Operand → AV} {k : Nat} {o : Oper} {e : Eff} (hfr : fr = true → isSl o = true) (h : effC P z fr ev σ k o = some e) : ∃ q : Orc, q.Ok P ∧ did P q ev σ k o e := by
  have plain : ∀ {z : Bool} {e : Eff}, prepZ P z ev σ k o = some (.eff e) → ∃ q : Orc, q.Ok P ∧ did P q ev σ k o e := fun {z e} h => by
    cases z with
    | false => exact ⟨plainOrc, plainOrc_ok, did_eff h⟩
    | true => exact ⟨trnOrc, trnOrc_ok, ⟨_, e, e, h, rfl, rfl, rfl⟩⟩
  unfold effC at h
  split at h
  · rename_i e0 h0
    split at h
    · split at h
      · rename_i e' he'
        cases h
        refine ⟨⟨fun _ _ => none, fun x => x, [], fun _ _ _ => none, true, fun _ => false, z⟩, ⟨fun _ _ _ h => (by cases h), fun x => .refl x, fun _ _ _ _ _ h => (by cases h), fun _ h => (by cases h)⟩, ⟨.eff e0, e0, e, h0, rfl, ?_, rfl⟩⟩
        rw [hfr rfl]; exact he'
      · cases h; exact plain h0
    · cases h; exact plain h0
  · split at h
    · rename_i e1 h1; cases h; exact plain h1
    · cases h
theorem intoRow_sl {o : Oper} {rest : List Oper} (h : intoRow o rest = true) : isSl o = true := by
  unfold intoRow at h
  split at h
  · rename_i hop _; simp [isSl, hop]
  · cases h

/-- What is done by an operation that goes through no code in place. -/
noncomputable def opStep (P : Program) [Globs P] (R : Run) (C : CC) (all : List Oper) (o : Oper) (rest : List Oper) (dr : Bool) (acc : List (List Nat × List Nat)) (k : List It) (s : St) (j : Jmp) (t : St) : Prop :=
  ∃ q e s1 acc', q.Ok P ∧ opA P q all o s = some e ∧ app o e s = some s1 ∧ okD all dr o e.reads (keysOf e.mem) 0 acc = true ∧ (dr = true → acc' = acc ++ [(e.reads, keysOf e.mem)]) ∧ R C (.ops all rest dr acc' :: k) s1 = .ok j t ∧ s1.clk = s.clk ∧ s1.nt = s.nt
theorem effK_step {R : Run} {C : CC} {all : List Oper} {o : Oper} {rest : List Oper} {dr : Bool} {acc : List (List Nat × List Nat)} {k : List It} {env : Env} {sto : Store} {clk nt : Nat} {e : Eff} {j : Jmp} {t : St} {q : Orc} (hw : wantedA all env o = some true)
    (hq : q.Ok P) (hd : did P q (evE env) sto (keyOf clk o.dst) o e) (h : effK R C all o rest dr acc k env sto clk nt e = .ok j t) : opStep P R C all o rest dr acc k ⟨env, sto, clk, nt⟩ j t := by
  unfold effK at h
  rw [forcedA_eq] at h
  obtain ⟨env', hp, h⟩ := putF_spec h
  split at h
  · rename_i hok
    rw [memC_eq] at h
    exact ⟨q, e, ⟨env', applyMem sto e.mem, clk, nt⟩, _, hq, did_op hw hd, by simp only [app, hp], hok, fun hd => by rw [if_pos hd], h, rfl, rfl⟩
  · cases h
theorem calleeC_prep {ev : Operand → AV} {k : Nat} {o : Oper} {g : Nat} {args : List AV} (h : calleeC P ev o = some (g, args)) : prep P ev σ k o = some (.call g args) := by
  unfold calleeC at h
  split at h
  · rename_i r name as ts hop
    split at h
    · rename_i f p hm
      cases h
      unfold prep prepZ
      simp only [hop, hm]
    · cases h
  · exact calleeA_prep h
/-- Is it gone through in place? -/
noncomputable def inPlace (P : Program) (tb : Tbl) (env : Env) (dr : Bool) (o : Oper) : Bool := match calleeC P (evE env) o with
  | some (f, args) => !(dr || isPlain args || tb.has f)
  | none => match yieldA (evE env) o with
    | some _ => true
    | none => false
theorem opsK_step {tb : Tbl} {R : Run} (htb : tb.Ok P) (hR : RunOk P R) {C : CC} {all : List Oper} {o : Oper} {rest : List Oper} {dr : Bool} {acc : List (List Nat × List Nat)} {k : List It} {s : St} {j : Jmp} {t : St}
    (h : opsK P tb R C all o rest dr acc k s.env s.sto s.clk s.nt = .ok j t) (hn : inPlace P tb s.env dr o = false ∨ wantedA all s.env o = some false) : opStep P R C all o rest dr acc k s j t := by
  obtain ⟨env, sto, clk, nt⟩ := s
  unfold opsK at h
  simp only [wantedF_eq] at h hn ⊢
  split at h
  · rename_i hw
    obtain ⟨env', hp, h⟩ := putF_spec h
    refine ⟨plainOrc, ⟨.pv (.tuple []), [], []⟩, ⟨env', sto, clk, nt⟩, _, plainOrc_ok, by simp only [opA, hw], by simp only [app, hp, applyMem], ?_, fun hd => by rw [if_pos hd]; rfl, h, rfl, rfl⟩
    cases dr with
    | true => exact okD_empty all o acc 0
    | false =>
      have : ∀ (acc : List (List Nat × List Nat)) (j : Nat), okD all false o [] [] j acc = true := by
        intro acc
        induction acc with
        | nil => intro j; rfl
        | cons x r ih => intro j; obtain ⟨a, b⟩ := x; simp only [okD, ih, Bool.not_false, Bool.true_or, Bool.and_true]
      exact this acc 0
  · rename_i hw
    have hn : inPlace P tb env dr o = false := hn.resolve_right (by rw [hw]; simp)
    unfold opK at h
    simp only [evF_eq] at h
    unfold inPlace at hn
    split at h
    · rename_i f args hcal
      rw [hcal] at hn
      simp only [Bool.not_eq_false'] at hn
      rw [hn] at h
      simp only at h
      split at h
      · rename_i ps ks hres
        rw [forced_eq] at h
        unfold conK at h
        simp only at h
        have fin : ∀ rs, Ct P f ps rs → (match callE (keyOf clk o.dst) sto ks rs with
            | some e => effK R C all o rest dr acc k env sto clk nt e
            | none => .bad [27]) = .ok j t → opStep P R C all o rest dr acc k ⟨env, sto, clk, nt⟩ j t := by
          intro rs hct h
          split at h
          · rename_i e he
            refine effK_step hw (callOrc_ok hct) ⟨.call f args, e, e, calleeC_prep hcal, ?_, rfl, rfl⟩ h
            simp only [effA, pureA, hres]
            simp [callOrc, he]
          · cases h
        split at h
        · rename_i rs hrs; exact fin rs (htb f ps rs hrs) h
        · split at h
          · cases h
          · obtain ⟨rs, hct, h⟩ := callC_ok hR (r := .ok j t) trivial h
            exact fin rs hct h
      · cases h
    · rename_i hcal
      rw [hcal] at hn
      simp only at hn
      split at h
      · rename_i kl args hy
        rw [hy] at hn; cases hn
      · split at h
        · rename_i e he
          obtain ⟨q, hq, hd⟩ := effC_did (fun hf => by
            simp only [Bool.and_eq_true] at hf
            exact intoRow_sl hf.2) he
          exact effK_step hw hq hd h
        · cases h
  · cases h

theorem all2_eq {α : Type} {r : α → α → Bool} (h : ∀ a b, r a b = true → a = b) : ∀ {l m : List α}, all2 r l m = true → l = m
  | [], [], _ => rfl
  | [], _ :: _, e => by cases e
  | _ :: _, [], e => by cases e
  | x :: xs, y :: ys, e => by
    simp only [all2, Bool.and_eq_true] at e
    rw [h x y e.1, all2_eq h e.2]
theorem litB_eq {a b : Value} (h : litB a b = true) : a = b := by
  unfold litB at h
  split at h <;> first | (cases h; done) | rfl | skip
  · simp at h; rw [h]
  · simp only [Bool.and_eq_true, decide_eq_true_eq] at h; rw [h.1, h.2]
  · simp only [Bool.and_eq_true, decide_eq_true_eq] at h; rw [h.1, Nat.eq_of_beq_eq_true h.2]
  · simp only [Bool.and_eq_true, decide_eq_true_eq] at h; rw [h.1, Nat.eq_of_beq_eq_true h.2.1, Nat.eq_of_beq_eq_true h.2.2]
  · rename_i a b
    obtain ⟨⟨a⟩⟩ := a
    obtain ⟨⟨b⟩⟩ := b
    simp only [decide_eq_true_eq] at h
    simp_all
theorem eqP_eq : ∀ (n : Nat) (p q : PV), eqP n p q = true → p = q
  | 0, p, q, h => by cases h
  | n + 1, p, q, h => by
    have ih := eqP_eq n
    simp only [eqP] at h
    split at h <;> first | (cases h; done) | skip
    · rw [litB_eq h]
    · simp only [Bool.and_eq_true, beq_iff_eq] at h; rw [h.1, all2_eq ih h.2]
    · simp only [Bool.and_eq_true] at h; rw [Nat.eq_of_beq_eq_true h.1, all2_eq ih h.2]
    · rw [all2_eq ih h]
    · rw [all2_eq ih h]
    · simp only [Bool.and_eq_true, decide_eq_true_eq] at h; rw [h.1, all2_eq ih h.2.1, all2_eq ih h.2.2]
    · simp only [Bool.and_eq_true] at h; rw [Nat.eq_of_beq_eq_true h.1, ih _ _ h.2]
/-- Contracts, one by one. -/
noncomputable def AllCt (P : Program) [Globs P] : List (Nat × List PV × List RV) → Prop
  | [] => True
  | x :: l => Ct P x.1 x.2.1 x.2.2 ∧ AllCt P l
theorem getL_ok {f : Nat} {ps : List PV} {rs : List RV} : ∀ {l : List (Nat × List PV × List RV)}, AllCt P l → getL l f ps = some rs → Ct P f ps rs
  | [], _, h => by cases h
  | (g, qs, rs') :: l, ha, h => by
    simp only [getL] at h
    split at h
    · rename_i e
      split at h
      · rename_i e2
        cases h
        rw [← Nat.eq_of_beq_eq_true e, ← all2_eq (eqP_eq 20) e2]
        exact ha.1
      · exact getL_ok ha.2 h
    · exact getL_ok ha.2 h
theorem Tbl.plus_ok {tb : Tbl} (h : tb.Ok P) {l : List (Nat × List PV × List RV)} (hl : AllCt P l) : (tb.plus l).Ok P := fun f ps rs e => by
  simp only [Tbl.plus] at e
  split at e
  · rename_i rs' e2; cases e; exact getL_ok hl e2
  · exact h f ps rs e
end Go.Mir
