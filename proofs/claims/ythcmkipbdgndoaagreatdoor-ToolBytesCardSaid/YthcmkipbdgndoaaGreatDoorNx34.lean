/- A function whose end waits for one deferred closure: a run of it (definitions, lemmas; conditions: what they say). -/
import Derived.Test.YthcmkipbdgndoaaGreatDoorNx32
import Derived.RecoverIn
set_option linter.all false
set_option linter.unusedVariables false
set_option linter.unusedSimpArgs false
set_option linter.unnecessarySimpa false
namespace Go.Mir
open Go Go.RowKit
variable {P : Program} {μ μ' : Nat → Option KS} {S S' : Nat → Prop} {w w' : World} {σ σ' : Store}
variable [Globs P]

/-- Marks go, at whatever function's end. -/
theorem pop_marks {F : Fence} {n : Nat} {n0 : Nat} {u : FrameMode} (hu : u ≠ .run) : ∀ (ms : List Deferred) (w : World) (fr : Frame) (cs : List Frame), Marks ⟨n0, []⟩ S w ms → fr.mode = u → fr.defers = ms → F.fn fr.fn → F.room (cs.length + 1 + n) →
    ∃ w', Off n0 w w' ∧ StepsIn (Machine.fenced P F) P (lone fr cs w) (lone { fr with defers := [] } cs w') := by
  intro ms
  induction ms with
  | nil =>
    intro w fr cs hm hmode hd hF hr
    refine ⟨w, Off.refl n0 w, ?_⟩
    have : fr = { fr with defers := [] } := by cases fr; simp only at hd; subst hd; rfl
    rw [← this]
    exact .refl _
  | cons d ms ih =>
    intro w fr cs hm hmode hd hF hr
    obtain ⟨h0, ms', e, hnd, hall⟩ := hm
    rw [List.append_nil] at e
    subst e
    obtain ⟨D, rfl, h1, h2, h3⟩ := hall d (by simp)
    obtain ⟨k1, k2⟩ := takeMark (P := P) h3 h1
    have s1 := step_collected (cs := cs) (fr := fr) (hmode ▸ hu) hd rfl k1
    have i1 : (lone fr cs w).fenced P F := fenced_out hF hr (hmode ▸ hu) hd (fun g hg => by simp [Target.leads] at hg)
    obtain ⟨w2, o2, s2⟩ := ih (w.putObj D (.deferred none)) { fr with defers := [] ++ ms } cs ⟨by rw [World.putObj_size]; exact h0, ms, by simp, (List.nodup_cons.1 (by simpa using hnd)).2, fun d' hd' => by
      obtain ⟨D', rfl, q1, q2, q3⟩ := hall d' (List.mem_cons_of_mem _ hd')
      have hne : D' ≠ D := fun e => by
        subst e
        have := (List.nodup_cons.1 (by simpa using hnd : ((Target.collected D' :: ms.map (·.target))).Nodup)).1
        exact this (List.mem_map.2 ⟨_, hd', rfl⟩)
      exact ⟨D', rfl, q1, q2, (World.putObj_heap_other hne).trans q3⟩⟩ hmode rfl hF hr
    exact ⟨w2, k2.trans o2, .head i1 s1 s2⟩
/-- A deferred call of a function that defers nothing itself (marks alone). -/
theorem callsD_of_marks {F : Fence} {n n0 : Nat} {f : FuncId} {fn : Func} {c : Code} {args : Array Value} {w : World} {R : Value → World → Prop} (hro : F.round = none) (hf : P.funcs[f]? = some fn) (hb : fn.body = some c) (hF : F.fn f)
    (h : c.wpIn F n P (fun e a w' => (e = .normal ∨ e = .ret) ∧ ∃ S, Marks ⟨n0, []⟩ S w' a.defers ∧ ∀ w'', Off n0 w' w'' → ∃ v, (results fn a.tmps).run P w'' = .ok v w'' ∧ R v w'')
      { tmps := args ++ Array.replicate (fn.ntmps - args.size) undef, defers := [] } w) :
    CallsDIn F n P f args .returning w fun e u' w' => u' = .returning ∧ ∃ v, e = .returned v ∧ R v w' := by
  refine ⟨hF, fun c₀ cs hu hr => ?_⟩
  let b : Frame := { (default : Frame) with fn := f, kind := .deferred, roundOf := none }
  have henter : Frame.enter P f args .deferred =
      b.atR { tmps := args ++ Array.replicate (fn.ntmps - args.size) undef, defers := [] } [.code c] := by
    simp [Frame.enter, Frame.atR, hf, hb, b]
  have hc : ({ c₀ with mode := .returning } : Frame) = c₀ := by rw [← hu]
  obtain ⟨e, a', w', hq, harr⟩ := h b [] (c₀ :: cs) hro.symm hF hr
  rw [← henter] at harr
  obtain ⟨he, S, hm, hv⟩ := hq
  have fin : ∀ (fr : Frame), fr.mode = .returning → fr.defers = a'.defers → fr.tmps = a'.tmps → fr.fn = f → fr.kind = .deferred → StepsIn (Machine.fenced P F) P (lone (Frame.enter P f args .deferred) (c₀ :: cs) w) (lone fr (c₀ :: cs) w') →
      ∃ e' u' w'' fr', (u' = FrameMode.returning ∧ ∃ v, e' = .returned v ∧ R v w'') ∧ ComesIn (Machine.fenced P F) P (lone (Frame.enter P f args .deferred) (c₀ :: cs) w) (lone fr' ({ c₀ with mode := u' } :: cs) w'') e' ∧ fr'.kind = .deferred ∧ fr'.fn = f ∧ fr'.going P w'' e' := by
    intro fr q1 q2 q3 q4 q5 q6
    obtain ⟨w2, o2, s2⟩ := pop_marks (P := P) (F := F) (n := n) (u := .returning) (by simp) a'.defers w' fr (c₀ :: cs) hm q1 q2 (by rw [q4]; exact hF) hr
    obtain ⟨v, r1, r2⟩ := hv w2 o2
    exact ⟨.returned v, .returning, w2, { fr with defers := [] }, ⟨rfl, v, rfl, r2⟩, by rw [hc]; exact StepsIn.trans q6 s2, q5, q4, q1, rfl, fn, by rw [q4]; exact hf, by rw [q3]; exact r1⟩
  rcases he with rfl | rfl
  · exact fin { b.atR a' [] with mode := .returning } rfl rfl rfl rfl rfl (StepsIn.trans harr (.one (fenced_calm (fr := b.atR a' []) hF hr rfl) (stepR_end rfl)))
  · obtain ⟨todo, hs⟩ := harr.1 rfl
    exact fin _ rfl rfl rfl rfl rfl hs
/-- A piece of a function's code, gone through. -/
theorem code_step {R : Run} (hR : RunOk P R) {C : CC} (hC : C.cx = []) (hrnd : C.rnd = false) {c : Code} {s s1 : St} {j : Jmp} (h : R C [.code c] s = .ok j s1) (hc : okCode c = true) {B : List Nat} {n0 : Base} {a : Act} (hgl : GlobOk P S w)
    {w1 : World} (hf : Fin B n0 μ S w s a w1) : c.wpIn (wide none) 0 P (fun e a2 w2 => e = j.ex ∧ Fin B n0 μ S w s1 a2 w2) a w1 := by
  obtain ⟨μ1, S1, h1, h2, h3, h4, h5⟩ := hf
  have hw := hR C [.code c] s j s1 h (fun x hx => by simp at hx; subst hx; exact hc) trivial B (fun j' r => j' = j ∧ r = s1) ⟨rfl, rfl⟩ n0 none μ1 S1 w1 a (by rw [show (C.with B _).rnd = C.rnd from rfl, hrnd]; rfl) h4 h1 h2 h3 (by rw [show (C.with B _).cx = C.cx from rfl, hC]; exact CxOk.nil (hgl.mono h5.st h5.mem))
  have hw' : c.wpIn (wide none) 0 P (FinΦ (C.with B fun j' r => j' = j ∧ r = s1) n0 μ1 S1 w1) a w1 := hw
  refine wpIn_mono hw' fun e a2 w2 hq => ?_
  cases e with
  | normal => obtain ⟨r, ⟨rfl, rfl⟩, hq⟩ := hq; exact ⟨rfl, hq.mono h5⟩
  | ret => obtain ⟨r, ⟨rfl, rfl⟩, hq⟩ := hq; exact ⟨rfl, hq.mono h5⟩
  | exit id => obtain ⟨r, ⟨rfl, rfl⟩, hq⟩ := hq; exact ⟨rfl, hq.mono h5⟩
  | goto l => obtain ⟨r, ⟨rfl, rfl⟩, hq⟩ := hq; exact ⟨rfl, hq.mono h5⟩
  | panic ch => exact hq.elim
  | outgrown => exact hq.elim
noncomputable def nest : List Code → Code → Code
  | [], X => X
  | c :: r, X => .seq c (nest r X)
/-- Pieces, one behind another. -/
noncomputable def runL (R : List It → St → Res) : List Code → St → (St → Res) → Res
  | [], s, K => K s
  | c :: r, s, K => match R [.code c] s with
    | .ok .fin s' => runL R r s' K
    | .ok .ret s' => .ok .ret s'
    | .bad l => .bad l
    | .ask g qs => .ask g qs
    | _ => .bad [45]
theorem runL_ok {R : Run} (hR : RunOk P R) {C : CC} (hC : C.cx = []) (hrnd : C.rnd = false) {B : List Nat} {n0 : Base} (hgl : GlobOk P S w) {K : St → Res} {x : Res} (hx : (∃ rs, x = .ret rs) ∨ ∃ s, x = .ok .ret s) {X : Code} {Q : Exit → Act → World → Prop} :
    ∀ (pre : List Code) (s : St) (a : Act) (w1 : World), (∀ c ∈ pre, okCode c = true) → runL (R C) pre s K = x → Fin B n0 μ S w s a w1 →
      (∀ s1 a1 w1, K s1 = x → Fin B n0 μ S w s1 a1 w1 → X.wpIn (wide none) 0 P Q a1 w1) → (∀ s1 a1 w1, x = .ok .ret s1 → Fin B n0 μ S w s1 a1 w1 → Q .ret a1 w1) →
      (nest pre X).wpIn (wide none) 0 P Q a w1
  | [], s, a, w1, _, h, hf, hK, _ => hK s a w1 h hf
  | c :: r, s, a, w1, hok, h, hf, hK, hQ => by
    refine wpIn_seq ?_
    rw [runL] at h
    split at h
    · rename_i s' hr
      refine wpIn_mono (code_step hR hC hrnd hr (hok c (by simp)) hgl hf) fun e a2 w2 hq => ?_
      obtain ⟨rfl, hq⟩ := hq
      exact runL_ok hR hC hrnd hgl hx r s' a2 w2 (fun c hc => hok c (List.mem_cons_of_mem _ hc)) h hq hK hQ
    · rename_i s1 hr
      subst h
      refine wpIn_mono (code_step hR hC hrnd hr (hok c (by simp)) hgl hf) fun e a2 w2 hq => ?_
      obtain ⟨rfl, hq⟩ := hq
      exact hQ s1 a2 w2 rfl hq
    all_goals (rcases hx with ⟨rs, rfl⟩ | ⟨s1, rfl⟩ <;> cases h)

/-- A region that makes a closure and lays it up. -/
noncomputable def isDfr (ops : List Oper) : Option (Nat × List Operand × Nat) := match ops with
  | [o1, o2] => match o1.op, o1.dst, o1.guard, o2.op, o2.dst, o2.guard with
    | .makeFunc (.func f) first caps, some d, none, .defer c, none, none => match first.toList, c.callee, c.args.toList with
      | [], .value (.tmp t), [] => match Nat.beq t d with
        | true => some (f, caps.toList, d)
        | false => none
      | _, _, _ => none
    | _, _, _, _, _, _ => none
  | _ => none
noncomputable def isR : Code → Option (Nat × List Operand × Nat)
  | .region _ ops false => isDfr ops.toList
  | _ => none
noncomputable def splitD : Code → Option (List Code × (Nat × List Operand × Nat) × Code)
  | .seq a b => match isR a with
    | some x => some ([], x, b)
    | none => match splitD b with
      | some (l, x, r) => some (a :: l, x, r)
      | none => none
  | _ => none
theorem isR_ok {a : Code} {x : Nat × List Operand × Nat} (h : isR a = some x) : ∃ id ops, isDfr ops.toList = some x ∧ a = .region id ops false := by
  unfold isR at h
  split at h
  · exact ⟨_, _, h, rfl⟩
  · cases h
theorem splitD_ok : ∀ {c : Code} {pre : List Code} {x : Nat × List Operand × Nat} {r : Code}, splitD c = some (pre, x, r) → ∃ id ops, isDfr ops.toList = some x ∧ c = nest pre (.seq (.region id ops false) r)
  | .seq a b, pre, x, r, h => by
    simp only [splitD] at h
    split at h
    · rename_i y hy
      cases h
      obtain ⟨id, ops, h1, rfl⟩ := isR_ok hy
      exact ⟨id, ops, h1, rfl⟩
    · split at h
      · rename_i l x' r' e
        cases h
        obtain ⟨id, ops, h1, h2⟩ := splitD_ok e
        exact ⟨id, ops, h1, by rw [nest, ← h2]⟩
      · cases h
  | .skip, _, _, _, h => by cases h
  | .region _ _ _, _, _, _, h => by cases h
  | .cond _ _ _, _, _, _, h => by cases h
  | .block _ _, _, _, _, h => by cases h
  | .loop _, _, _, _, h => by cases h
  | .rangeFunc _ _ _ _, _, _, _, h => by cases h
  | .exit _, _, _, _, h => by cases h
  | .scope _, _, _, _, h => by cases h
  | .label _, _, _, _, h => by cases h
  | .goto _, _, _, _, h => by cases h
  | .ret, _, _, _, h => by cases h
  | .refuse _, _, _, _, h => by cases h
/-- What that region does. -/
theorem dfr_ok {id : Nat} {ops : Array Oper} {g d : Nat} {caps : List Operand} (h : isDfr ops.toList = some (g, caps, d)) {Q : Exit → Act → World → Prop} {a : Act} {w : World}
    (hq : Q .normal { (a.put (some d) (.func (.func g) #[] (caps.map a.eval).toArray)) with defers := { target := .fn (.func g) (caps.map a.eval).toArray, args := #[] } :: a.defers } w) (hd : d < a.tmps.size) :
    (Code.region id ops false).wpIn (wide none) 0 P Q a w := by
  unfold isDfr at h
  split at h
  · rename_i o1 o2 hops
    split at h
    · rename_i f first cps d' c h1 h2 h3 h4 h5 h6
      split at h
      · rename_i t hf hc ha
        split at h
        · rename_i htd
          cases h
          obtain rfl := Nat.eq_of_beq_eq_true htd
          refine wpIn_region_listR ?_
          rw [hops]
          have w1 : ∀ (a : Act), Region.wanted o1 (yielded ops a.tmps) = true := fun a => by simp [Region.wanted, h3]
          have w2 : ∀ (a : Act), Region.wanted o2 (yielded ops a.tmps) = true := fun a => by simp [Region.wanted, h6]
          have r1 : (execOp a.eval o1).run P w = .ok (.value (.func (.func g) #[] (cps.toList.map a.eval).toArray)) w := by
            have hf' : first = #[] := Array.toList_eq_nil_iff.1 hf
            have hm : Array.map a.eval cps = (List.map a.eval cps.toList).toArray := by rw [← Array.toList_inj]; simp
            simp [execOp, h1, Instr.makeFunc, hf', hm]
          have ev : ∀ v : Value, (a.put (some t) v).eval (.tmp t) = v := fun v => by
            simp [Act.put, Act.eval, hd]
          have r2 : ∀ (b : Act) (v : Array Value), b.eval (.tmp t) = .func (.func g) #[] v → (execOp b.eval o2).run P w = .ok (.defer { target := .fn (.func g) v, args := #[] }) w := fun b v hb => by
            have ha' : c.args = #[] := Array.toList_eq_nil_iff.1 ha
            simp only [execOp, h4, Go.resolve, hc, ha', Deferred.ofValue, hb]
            simp
          unfold wpListIn
          rw [if_pos (w1 a)]
          refine ⟨fun _ _ => trivial, ?_⟩
          rw [show o1.semAt (wide none).round a.eval = execOp a.eval o1 from rfl, r1, Oper.uponIn_value, h2]
          unfold wpListIn
          rw [if_pos (w2 _)]
          refine ⟨fun _ _ => trivial, ?_⟩
          rw [show o2.semAt (wide none).round _ = execOp _ o2 from rfl, r2 _ _ (ev _), Oper.uponIn_defer, h5]
          exact hq
        · cases h
      · cases h
    · cases h
  · cases h

/-- A function's results at a state. -/
noncomputable def endC (P : Program) (fn : Func) (env : Env) (sto : Store) : Res := match results? P env sto fn.results.toList with
  | some xs => match finRV sto xs with
    | some (rs, _) => .ret rs
    | none => .bad [46]
  | none => .bad [47]
/-- The rest of a function whose end waits for a closure; then that. -/
noncomputable def restC (P : Program) [Globs P] (tb : Tbl) (n f : Nat) (fn : Func) (g d : Nat) (caps : List Operand) (rest : Code) (s : St) : Res :=
  match Nat.blt d s.nt with
  | true => forced (caps.map (evF s.env)) fun cs => forced (insF d .bot s.env) fun env2 => match runC P tb n ⟨false, [], f, tb.zs f⟩ [.code rest] ⟨env2, s.sto, s.clk + 1, s.nt⟩ with
    | .ok j3 s3 => match P.funcs[g]? with
      | some fg => match fg.body with
        | some cg => match okFnQ fg cs.length with
          | true => match runC P tb n ⟨false, [], g, tb.zs g⟩ [.code cg] ⟨envOf 0 cs, s3.sto, s3.clk, fg.ntmps⟩ with
            | .ok j4 s4 => match j3, j4, results? P s4.env s4.sto fg.results.toList with
              | .fin, .fin, some _ => endC P fn s3.env s4.sto
              | .fin, .ret, some _ => endC P fn s3.env s4.sto
              | .ret, .fin, some _ => endC P fn s3.env s4.sto
              | .ret, .ret, some _ => endC P fn s3.env s4.sto
              | _, _, _ => .bad [48]
            | .bad l => .bad (g :: l)
            | .ask h qs => .ask h qs
            | _ => .bad [49]
          | false => .bad [50, g]
        | none => .bad [51]
      | none => .bad [52]
    | .bad l => .bad l
    | .ask h qs => .ask h qs
    | _ => .bad [53]
  | false => .bad [54]
noncomputable def tryD (P : Program) [Globs P] (tb : Tbl) (n f : Nat) (ps : List PV) : Res := match P.funcs[f]? with
  | some fn => match fn.body with
    | some c => match fn.name == "runtime.NumGoroutine", Nat.ble ps.length fn.ntmps, splitD c with
      | false, true, some (pre, (g, caps, d), rest) => match allQ okCodeQ pre, okCodeQ rest with
        | true, true => match runL (runC P tb n ⟨false, [], f, tb.zs f⟩) pre ⟨envOf 0 (ps.map .pv), globS P, 0, fn.ntmps⟩ (restC P tb n f fn g d caps rest) with
          | .ok .ret s => endC P fn s.env s.sto
          | .ok _ _ => .bad [55]
          | r => r
        | _, _ => .bad [56]
      | _, _, _ => .bad [57]
    | none => .bad [58]
  | none => .bad [59]

/-- A frame's results where nothing waits. -/
theorem endC_ok {fn : Func} {env : Env} {sto : Store} {rs : List RV} (h : endC P fn env sto = .ret rs) : ∃ xs σ1, results? P env sto fn.results.toList = some xs ∧ finRV sto xs = some (rs, σ1) := by
  unfold endC at h
  split at h
  · rename_i xs hxs
    split at h
    · rename_i rs' σ1 hfin; cases h; exact ⟨xs, σ1, hxs, hfin⟩
    · cases h
  · cases h

noncomputable def DoneR (S : Nat → Prop) (w : World) (rs : List RV) (e : Ending) (w' : World) : Prop :=
  ∃ S' us bs, e = .returned (resVal us) ∧ RVs S' w' rs us bs ∧ Grown S w S' w' ∧ ∀ b ∈ bs, ¬ S' b ∧ w.heap.size ≤ b ∧ b < w'.heap.size
theorem done_ok {w0 : World} {fn : Func} {env : Env} {tmps : Array Value} {rs : List RV} (h : endC P fn env σ = .ret rs) (hs1 : StoRep μ S' w σ) (he1 : EnvRep μ S' w env tmps) (hx1 : ExtB [] (globμ P) S w0 μ S' w) :
    ∃ v, (results fn tmps).run P w = .ok v w ∧ DoneR S w0 rs (.returned v) w := by
  obtain ⟨xs, σ1, hxs, hrv⟩ := endC_ok h
  obtain ⟨us, hru, hp⟩ := results_ok (P := P) (fn := fn) hs1 he1 hxs
  obtain ⟨μ2, S2, bs, g1, g2, g3, g4⟩ := finRV_ok hs1 hp hrv
  have hx2 := hx1.trans (g2.toB _)
  refine ⟨_, hru, S2, us, bs, rfl, g3, ⟨hx2.st, fun b hb => ?_, g1.slt, fun b hb => hx2.frame b hb (fun _ h => globμ_owns h), hx2.size, hx2.os, hx2.tape, hx2.output⟩, fun b hb => ?_⟩
  · rcases hx2.st' b hb with h | ⟨j, h⟩ | h
    · exact .inl h
    · exact (globμ_owns h).elim
    · exact .inr h
  · obtain ⟨q1, q2, ⟨j, q3⟩, q4⟩ := g4 b hb
    refine ⟨q1, ?_, q4⟩
    rcases hx1.own' j b q3 with ⟨_, h⟩ | h
    · exact (globμ_owns h).elim
    · exact h
theorem restC_ok {tb : Tbl} {n f : Nat} (hR : RunOk P (runC P tb n)) {fn : Func} {g d : Nat} {caps : List Operand} {rest : Code} {rs : List RV} {s1 : St} {a1 : Act} {w0 w1 : World} {id : Nat} {ops : Array Oper} (hgl : GlobOk P S w0) (hS : ∀ b, S b → b < w0.heap.size)
    (hdf : isDfr ops.toList = some (g, caps, d)) (hok : okCode rest = true) (h : restC P tb n f fn g d caps rest s1 = .ret rs) (hf : Fin [] ⟨w0.heap.size, []⟩ (globμ P) S w0 s1 a1 w1) :
    (Code.seq (.region id ops false) rest).wpIn (wide none) 0 P (bodyPostM (wide none) 0 P fn (DoneR S w0 rs)) a1 w1 := by
  obtain ⟨μ1, S1, h1, h2, h3, h4, h5⟩ := hf
  unfold restC at h
  split at h
  · rename_i hd
    have hd' : d < a1.tmps.size := by rw [h4]; simpa using hd
    simp only [forced_eq, insF_eq, evF_eq] at h
    split at h
    · rename_i j3 s3 hr3
      split at h
      · rename_i fg hfg
        split at h
        · rename_i cg hcg
          split at h
          · rename_i hokg
            split at h
            · rename_i j4 s4 hr4
              have hj : (j3 = .fin ∨ j3 = .ret) ∧ (j4 = .fin ∨ j4 = .ret) ∧ (∃ ys, results? P s4.env s4.sto fg.results.toList = some ys) ∧ endC P fn s3.env s4.sto = .ret rs := by
                split at h <;> first | exact ⟨.inl rfl, .inl rfl, ⟨_, by assumption⟩, h⟩ | exact ⟨.inl rfl, .inr rfl, ⟨_, by assumption⟩, h⟩ | exact ⟨.inr rfl, .inl rfl, ⟨_, by assumption⟩, h⟩ | exact ⟨.inr rfl, .inr rfl, ⟨_, by assumption⟩, h⟩ | cases h
              obtain ⟨e3, e4, ⟨ys, hys⟩, hend⟩ := hj
              have hgl1 := hgl.mono h5.st h5.mem
              have hcap : PW (RepA μ1 S1 w1) (caps.map (evE s1.env)) (caps.map a1.eval) := ⟨by simp, fun j x v hx hv => by
                rw [List.getElem?_map] at hx hv
                cases hc : caps[j]? with
                | none => rw [hc] at hx; cases hx
                | some y => rw [hc] at hx hv; cases hx; cases hv; exact h3.ev y⟩
              refine wpIn_seq (dfr_ok hdf ?_ hd')
              show rest.wpIn _ 0 P _ _ _
              obtain ⟨a2, ha2⟩ : ∃ a2 : Act, a2 = { (a1.put (some d) (.func (.func g) #[] (caps.map a1.eval).toArray)) with defers := { target := .fn (.func g) (caps.map a1.eval).toArray, args := #[] } :: a1.defers } := ⟨_, rfl⟩
              have env2 := h3.put h4 (RepA.bot (μ := μ1) (S := S1) (w := w1) (.func (.func g) #[] (caps.map a1.eval).toArray)) (dst := some d) (env' := ins d .bot s1.env) (by simp only [putE]; rw [if_pos (by simpa using hd)])
              have fin2 : Fin (s1.sto.map (·.1)) ⟨w1.heap.size, a2.defers⟩ μ1 S1 w1 ⟨ins d .bot s1.env, s1.sto, s1.clk + 1, s1.nt⟩ a2 w1 := ⟨μ1, S1, Marks.nil (n0 := ⟨w1.heap.size, a2.defers⟩) (Nat.le_refl _), h2, by rw [ha2]; exact env2.1, by rw [ha2]; exact env2.2, (Ext.refl μ1 S1 w1).toB _⟩
              rw [← ha2]
              refine wpIn_mono (code_step hR rfl rfl hr3 hok hgl1 fin2) fun e a3 w3 hq => ?_
              obtain ⟨rfl, μ3, S3, m1, m2, m3, m4, m5⟩ := hq
              have x13 := m5.all h2 (fun _ h => h)
              have goal : LeavesInM (wide none) 0 P fn a3.tmps (DoneR S w0 rs) a3.defers .returning w3 := by
                refine leavesM_ok a3.defers w3 m1 fun w4 o4 => ?_
                rw [show (⟨w1.heap.size, a2.defers⟩ : Base).ds = a2.defers from rfl, ha2]
                obtain ⟨p1, p2, p3⟩ := okFn_spec (okFnQ_ok hokg) hcg
                refine ⟨by simp, .inr ⟨fun h => by simp [wide, Fence.wide] at h, .func g, (caps.map a1.eval).toArray, g, (caps.map a1.eval).toArray, rfl, ?_, fun _ _ => trivial, ?_⟩⟩
                · simp [invoke, callFunc, hfg, p1, hcg]
                · have fin4 : Fin (s3.sto.map (·.1)) ⟨w4.heap.size, []⟩ μ3 S3 w4 ⟨envOf 0 (caps.map (evE s1.env)), s3.sto, s3.clk, fg.ntmps⟩ { tmps := (caps.map a1.eval).toArray ++ Array.replicate (fg.ntmps - (caps.map a1.eval).toArray.size) undef, defers := [] } w4 :=
                    ⟨μ3, S3, Marks.nil (n0 := ⟨w4.heap.size, []⟩) (Nat.le_refl _), m2.off o4, EnvRep.enter (hcap.mono fun x v hx => (hx.mono x13.keys x13.st x13.mem).off o4), by simp at p2 ⊢; omega, (Ext.refl μ3 S3 w4).toB _⟩
                  have hgl4 : GlobOk P S3 w4 := fun y hy => (((hgl1.mono x13.st x13.mem) y hy)).off o4
                  have hw := code_step hR (C := ⟨false, [], g, tb.zs g⟩) rfl rfl hr4 p3 hgl4 fin4
                  refine (callsD_of_marks (n0 := w4.heap.size) (R := fun _ w5 => ∃ μ5 S5, StoRep μ5 S5 w5 s4.sto ∧ Ext μ3 S3 w4 μ5 S5 w5) rfl hfg hcg trivial (wpIn_mono hw fun e a5 w5 hq => ?_)).mono fun e u' w5 hq => ?_
                  · obtain ⟨rfl, μ5, S5, k1, k2, k3, k4, k5⟩ := hq
                    refine ⟨by rcases e4 with rfl | rfl <;> simp [Jmp.ex], S5, k1, fun w6 o6 => ?_⟩
                    obtain ⟨us, hru, _⟩ := results_ok (P := P) (fn := fg) (k2.off o6) (k3.off o6) hys
                    exact ⟨_, hru, μ5, S5, k2.off o6, (ExtB.off o6 (m2.off o4).slt k5).all (m2.off o4) (fun _ h => h)⟩
                  · obtain ⟨rfl, v, rfl, μ5, S5, q1, q2⟩ := hq
                    show LeavesInM (wide none) 0 P fn a3.tmps (DoneR S w0 rs) a1.defers (settle .returning) w5
                    have x15 := (((ExtB.off o4 h2.slt m5).all h2 (fun _ h => h))).trans q2
                    refine leavesM_ok (n0 := ⟨w0.heap.size, []⟩) a1.defers w5 (h1.mono x15.st x15.mem x15.size) fun w6 o6 => ?_
                    exact done_ok hend (q1.off o6) (((m3.off o4).ext q2).off o6) ((h5.trans (x15.toB [])).off o6 hS)
              rcases e3 with rfl | rfl <;> exact goal
            · cases h
            · cases h
            · cases h
          · cases h
        · cases h
      · cases h
    · cases h
    · cases h
    · cases h
  · cases h

theorem endC_no {fn : Func} {env : Env} {sto : Store} {j : Jmp} {s : St} (h : endC P fn env sto = .ok j s) : False := by
  unfold endC at h
  split at h
  · split at h <;> cases h
  · cases h
theorem restC_no {tb : Tbl} {n f : Nat} {fn : Func} {g d : Nat} {caps : List Operand} {rest : Code} {s1 s : St} {j : Jmp} (h : restC P tb n f fn g d caps rest s1 = .ok j s) : False := by
  unfold restC at h
  split at h
  · simp only [forced_eq] at h
    split at h
    · split at h
      · split at h
        · split at h
          · split at h
            · split at h <;> first | exact endC_no h | cases h
            · cases h
            · cases h
            · cases h
          · cases h
        · cases h
      · cases h
    · cases h
    · cases h
    · cases h
  · cases h
/-- A function whose end waits for a closure, at arguments, by a run. -/
theorem ct_runD {tb : Tbl} (htb : tb.Ok P) (hmix : P.follows .mixedOrders = true) (l : List (Nat × List PV × List RV)) (hl : AllCt P l) (n : Nat) {f : Nat} {ps : List PV} {rs : List RV} (h : tryD P (tb.plus l) n f ps = .ret rs) : Ct P f ps rs := by
  have hR := runC_ok (Tbl.plus_ok htb hl) hmix n
  generalize tb.plus l = tb' at h hR
  unfold tryD at h
  split at h
  · rename_i fn hf
    split at h
    · rename_i c hb
      split at h
      · rename_i pre g caps d rest e1 e2 e3
        split at h
        · rename_i e4 e5
          refine Ct.ofP ?_
          intro S w vs hS hgl ha
          have hσ := globS_rep hgl hS
          have ha' : PW (RepA (globμ P) S w) (ps.map .pv) vs := ⟨by simpa using ha.1, fun j x v hx hv => by
            rw [List.getElem?_map, Option.map_eq_some_iff] at hx
            obtain ⟨p, hp, rfl⟩ := hx
            exact .pv (ha.2 j p v hp hv)⟩
          have hname : ¬ fn.name = "runtime.NumGoroutine" := fun h' => by rw [h'] at e1; simp at e1
          have hlen : ps.length ≤ fn.ntmps := by simpa using e2
          obtain ⟨id, ops, hdf, hc⟩ := splitD_ok e3
          have fin0 : Fin [] ⟨w.heap.size, []⟩ (globμ P) S w ⟨envOf 0 (ps.map .pv), globS P, 0, fn.ntmps⟩ { tmps := vs.toArray ++ Array.replicate (fn.ntmps - vs.toArray.size) undef, defers := [] } w :=
            ⟨globμ P, S, Marks.nil (n0 := ⟨w.heap.size, []⟩) (Nat.le_refl _), hσ, EnvRep.enter ha', by have := ha.1; simp at this ⊢; omega, (Ext.refl _ S w).toB _⟩
          have okp : ∀ c ∈ pre, okCode c = true := fun c hc => okCodeQ_ok (allQ_spec e4 c hc)
          have early : ∀ s1 a1 w1, endC P fn s1.env s1.sto = .ret rs → Fin [] ⟨w.heap.size, []⟩ (globμ P) S w s1 a1 w1 → LeavesInM (wide none) 0 P fn a1.tmps (DoneR S w rs) a1.defers .returning w1 := by
            rintro s1 a1 w1 hend ⟨μ1, S1, m1, m2, m3, _, m5⟩
            exact leavesM_ok a1.defers w1 m1 fun w2 o2 => done_ok hend (m2.off o2) (m3.off o2) (m5.off o2 hS)
          have body : ∀ x, runL (runC P tb' n ⟨false, [], f, tb'.zs f⟩) pre ⟨envOf 0 (ps.map .pv), globS P, 0, fn.ntmps⟩ (restC P tb' n f fn g d caps rest) = x → (x = .ret rs ∨ ∃ s, x = .ok .ret s ∧ endC P fn s.env s.sto = .ret rs) →
              (nest pre (.seq (.region id ops false) rest)).wpIn (wide none) 0 P (bodyPostM (wide none) 0 P fn (DoneR S w rs)) { tmps := vs.toArray ++ Array.replicate (fn.ntmps - vs.toArray.size) undef, defers := [] } w := by
            intro x hx hx2
            refine runL_ok hR (C := ⟨false, [], f, tb'.zs f⟩) rfl rfl hgl (x := x) (by rcases hx2 with rfl | ⟨s, rfl, _⟩; exact .inl ⟨_, rfl⟩; exact .inr ⟨_, rfl⟩) pre _ _ w okp hx fin0 (fun s1 a1 w1 hk hf1 => ?_) (fun s1 a1 w1 hr hf1 => ?_)
            · rcases hx2 with rfl | ⟨s, rfl, _⟩
              · exact restC_ok hR hgl hS hdf (okCodeQ_ok e5) hk hf1
              · exact (restC_no hk).elim
            · rcases hx2 with rfl | ⟨s, rfl, hend⟩
              · cases hr
              · cases hr; exact early s1 a1 w1 hend hf1
          have key := callsIn_of_wp_marks (R := DoneR S w rs) (args := vs.toArray) hf hb (F := wide none) (n := 0) (P := P) (w := w) trivial (by
            rw [hc]
            split at h
            · rename_i s hx; exact body _ hx (.inr ⟨s, rfl, h⟩)
            · cases h
            · exact body _ h (.inl rfl))
          exact ⟨(callsIn_wideR.1 key).mono fun e w' ⟨S', us, bs, he, hr, hg, hb⟩ => ⟨S', rs, us, bs, RvsLe.refl _, he, hr, hg, hb⟩, by simp [callFunc, hf, hname, hb]⟩
        · cases h
      · cases h
    · cases h
  · cases h
end Go.Mir
