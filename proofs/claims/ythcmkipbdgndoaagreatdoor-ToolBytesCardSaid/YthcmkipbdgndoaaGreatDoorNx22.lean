/- What is shown of code, is true of Go's (lemmas; conditions: what they say). -/
import Derived.Test.YthcmkipbdgndoaaGreatDoorNx21
set_option linter.all false
set_option linter.unusedVariables false
set_option linter.unusedSimpArgs false
set_option linter.unnecessarySimpa false
namespace Go.Mir
open Go Go.RowKit
variable {P : Program} {μ μ' : Nat → Option KS} {S S' : Nat → Prop} {w w' : World} {σ σ' : Store}
variable [Globs P]

theorem StoRep.drew (h : StoRep μ S w σ) : StoRep μ S w.drew σ :=
  ⟨fun k b hb => BlkRep.mono (w := w) (w' := w.drew) (KeysOk.refl _) (fun _ h => h) (fun _ _ => rfl) rfl (fun _ _ => ⟨Iff.rfl, rfl⟩) (h.blk k b hb), h.dom, h.inj, h.lt, h.slt⟩

theorem GlobOk.drew (h : GlobOk P S w) : GlobOk P S w.drew := GlobOk.mono (w := w) (w' := w.drew) (fun _ h => h) (fun _ _ => rfl) h
theorem okD_empty (all : List Oper) (o : Oper) : ∀ (acc : List (List Nat × List Nat)) (i : Nat), okD all true o [] [] i acc = true
  | [], _ => rfl
  | (rd, wr) :: r, i => by
    simp only [okD, okD_empty all o r (i + 1), Bool.and_true]
    simp [disj]
theorem okD_spec {all : List Oper} {o : Oper} {rd wr : List Nat} : ∀ {acc : List (List Nat × List Nat)} {n : Nat}, okD all true o rd wr n acc = true → ∀ (i : Nat) (p : List Nat × List Nat), acc[i]? = some p →
    (∃ e ∈ o.after, Region.binds .any e = true ∧ e.on = n + i) ∨ (disj wr (p.1 ++ p.2) = true ∧ disj p.2 rd = true) ∨ pairOk all[n + i]? o = true
  | [], n, _, i, p, hp => by simp at hp
  | (rd', wr') :: r, n, h, i, p, hp => by
    simp only [okD, Bool.and_eq_true, Bool.or_eq_true, Bool.not_true, Bool.false_eq_true, false_or] at h
    cases i with
    | zero =>
      simp only [List.getElem?_cons_zero, Option.some.injEq] at hp
      subst hp
      rcases h.1 with (h1 | h1) | h1
      · left
        rw [Array.any_eq_true] at h1
        obtain ⟨j, hj, he⟩ := h1
        simp only [Bool.and_eq_true, beq_iff_eq] at he
        exact ⟨o.after[j], Array.getElem_mem hj, he.2, he.1⟩
      · exact .inr (.inl h1)
      · exact .inr (.inr h1)
    | succ i =>
      rcases okD_spec h.2 i p (by simpa using hp) with ⟨e, h1, h2, h3⟩ | h1
      · exact .inl ⟨e, h1, h2, by omega⟩
      · exact .inr (by rw [show n + (i + 1) = n + 1 + i by omega]; exact h1)
theorem disj_spec {a b : List Nat} (h : disj a b = true) : ∀ k ∈ a, k ∉ b := fun k hk hb => by
  have := List.all_eq_true.1 h k hk
  simp at this
  exact this hb

theorem did_op {q : Orc} {all : List Oper} {o : Oper} {s : St} {e : Eff} (hw : wantedA all s.env o = some true) (h : did P q (evE s.env) s.sto (keyOf s.clk o.dst) o e) : opA P q all o s = some e := by
  obtain ⟨p, e1, e0, h1, h2, h3, rfl⟩ := h
  simp only [opA, hw, h1, h2, h3]

/-- A step of operations, as it is shown. -/
noncomputable def plainQ : Option Q → Bool
  | some (.inl _ _ _) => false
  | some (.inlj _ _ _ _) => false
  | some (.yld _ _) => false
  | _ => true
theorem opsX {n : Nat} {C : Ctx} {ans : List (Nat × Q)} {i : Nat} {all : List Oper} {o : Oper} {rest : List Oper} {dr : Bool} {acc : List (List Nat × List Nat)} {k : List It} {s : St}
    (h : runX P (n + 1) C ans i (.ops all (o :: rest) dr acc :: k) s) (hq : plainQ (lkQ ans i) = true ∨ wantedA all s.env o = some false) : ∃ q e s1 acc' ans', q.Ok P ∧ opA P q all o s = some e ∧ app o e s = some s1 ∧ okD all dr o e.reads (keysOf e.mem) 0 acc = true ∧ (dr = true → acc' = acc ++ [(e.reads, keysOf e.mem)]) ∧ runX P n C ans' (i + 1) (.ops all rest dr acc' :: k) s1 ∧ s1.clk = s.clk ∧ s1.nt = s.nt := by
  obtain ⟨env0, sto0, clk0, nt0⟩ := s
  rw [runX_succ] at h; simp only at h
  split at h
  · rename_i hw
    obtain ⟨env, hp, h⟩ := putX_spec h
    refine ⟨plainOrc, ⟨.pv (.tuple []), [], []⟩, ⟨env, sto0, clk0, nt0⟩, _, ans, plainOrc_ok, by simp only [opA, hw], by simp only [app, hp, applyMem], ?_, fun hd => by rw [if_pos hd]; rfl, h, rfl, rfl⟩
    cases dr with
    | true => exact okD_empty all o acc 0
    | false =>
      have : ∀ (acc : List (List Nat × List Nat)) (j : Nat), okD all false o [] [] j acc = true := by
        intro acc
        induction acc with
        | nil => intro j; rfl
        | cons x r ih => intro j; obtain ⟨a, b⟩ := x; simp only [okD, ih, Bool.not_false, Bool.true_or, Bool.and_true]
      exact this acc 0
  · rename_i hw
    have hq : plainQ (lkQ ans i) = true := by
      rcases hq with hq | hq
      · exact hq
      · simp only at hq; rw [hw] at hq; cases hq
    split at h
    · rename_i hl; rw [hl] at hq; cases hq
    · rename_i hl; rw [hl] at hq; cases hq
    · rename_i hl; rw [hl] at hq; cases hq
    · obtain ⟨q, e, ov, hq, hd, h⟩ := opX_ok h
      rw [AV.laid_eq] at h
      obtain ⟨env, hp, h⟩ := putX_spec h
      split at h
      · rename_i hok
        rw [memX_eq] at h
        exact ⟨q, e, ⟨env, applyMem sto0 e.mem, clk0, nt0⟩, _, ov ++ ans, hq, did_op hw hd, by simp only [app, hp], hok, fun hd => by rw [if_pos hd], h, rfl, rfl⟩
      · exact h.elim
  · exact h.elim
/-- In a region of whatever order no call is gone through. -/
theorem opsX_drawn {n : Nat} {C : Ctx} {ans : List (Nat × Q)} {i : Nat} {all : List Oper} {o : Oper} {rest : List Oper} {acc : List (List Nat × List Nat)} {k : List It} {s : St}
    (h : runX P (n + 1) C ans i (.ops all (o :: rest) true acc :: k) s) : plainQ (lkQ ans i) = true ∨ wantedA all s.env o = some false := by
  obtain ⟨env0, sto0, clk0, nt0⟩ := s
  rw [runX_succ] at h; simp only at h
  split at h
  · rename_i hw; exact .inr hw
  · left
    split at h
    · exfalso
      split at h
      · simp only [Bool.not_true, Bool.false_and] at h
      · exact h
    · exfalso
      split at h
      · simp only [Bool.not_true, Bool.false_and] at h
      · exact h
    · exfalso
      split at h
      · split at h
        · simp only [Bool.not_true, Bool.false_and] at h
        · exact h
      · exact h
    · rename_i h1 h3 h2
      unfold plainQ
      split
      · rename_i hl; exact absurd hl (h1 _ _ _)
      · rename_i hl; exact absurd hl (h3 _ _ _ _)
      · rename_i hl; exact absurd hl (h2 _ _)
      · rfl
  · exact h.elim

theorem drawn_chain {C : Ctx} {k : List It} {all : List Oper} : ∀ (rest : List Oper) (acc : List (List Nat × List Nat)) (m : Nat) (ans : List (Nat × Q)) (i : Nat) (s : St), runX P m C ans i (.ops all rest true acc :: k) s →
    ∃ es t m' ans' i', Exec P all rest es s t ∧ m' < m ∧ runX P m' C ans' i' k t ∧ t.clk = s.clk ∧ t.nt = s.nt ∧ (∀ x ∈ es, x.2.Ok P) ∧
      ∀ (j : Nat) (o : Oper) (e : Eff) (q : Orc), rest[j]? = some o → es[j]? = some (e, q) → okD all true o e.reads (keysOf e.mem) 0 (acc ++ (es.take j).map fun x => (x.1.reads, keysOf x.1.mem)) = true
  | [], acc, m, ans, i, s, h => by
    cases m with
    | zero => exact h.elim
    | succ m => exact ⟨[], s, m, ans, i, .nil, by omega, h, rfl, rfl, fun x hx => by simp at hx, fun j o e q h1 => by simp at h1⟩
  | o :: rest, acc, m, ans, i, s, h => by
    cases m with
    | zero => exact h.elim
    | succ m =>
      obtain ⟨q, e, s1, acc', ans', hq, h1, h2, h3, h3', h4, h5, h6⟩ := opsX h (opsX_drawn h)
      rw [h3' rfl] at h4
      obtain ⟨es, t, m', ans'', i', g1, g2, g3, g4, g5, g6, g7⟩ := drawn_chain rest _ m _ _ s1 h4
      refine ⟨(e, q) :: es, t, m', ans'', i', .cons h1 h2 g1, by omega, g3, g4.trans h5, g5.trans h6, fun x hx => ?_, fun j o' e' q' hj he => ?_⟩
      · rcases List.mem_cons.1 hx with rfl | hx
        · exact hq
        · exact g6 x hx
      · cases j with
        | zero =>
          simp only [List.getElem?_cons_zero, Option.some.injEq, Prod.mk.injEq] at hj he
          obtain ⟨rfl, rfl⟩ := he
          subst hj
          simpa using h3
        | succ j =>
          have := g7 j o' e' q' (by simpa using hj) (by simpa using he)
          simpa [List.append_assoc] using this

theorem any_ok {ds : List Deferred} {all : List Oper} {es : Nat → Option (Eff × Orc)} {t : St} (hes : ∀ i e q, es i = some (e, q) → q.Ok P) {Q : Exit → Act → World → Prop} :
    ∀ (fuel : Nat) (listed : Array Bool) (s : St) (μ : Nat → Option KS) (S : Nat → Prop) (w : World) (a : Act), AAny P all es (fun x => x = t) fuel listed s → GlobOk P S w → a.tmps.size = s.nt → a.defers = ds → StoRep μ S w s.sto → EnvRep μ S w s.env a.tmps →
      (∀ μ' S' w' a', a'.tmps.size = t.nt → a'.defers = ds → StoRep μ' S' w' t.sto → EnvRep μ' S' w' t.env a'.tmps → Ext μ S w μ' S' w' → Q .normal a' w') → wpAny P .any all.toArray Q fuel listed a w := by
  intro fuel
  induction fuel with
  | zero => intro listed s μ S w a h hg hn hd hσ he hQ; obtain ⟨h1, rfl⟩ := h; exact ⟨h1, hQ μ S w a hn hd hσ he (Ext.refl _ _ _)⟩
  | succ fuel ih =>
    intro listed s μ S w a h hg hn hd hσ he hQ
    refine ⟨fun h0 => by obtain rfl := h.1 h0; exact hQ μ S w a hn hd hσ he (Ext.refl _ _ _), fun i hi => ?_⟩
    obtain ⟨o, e, q, s1, hoi, hei, h1, h2, h3⟩ := h.2 i hi
    obtain ⟨env, hp, rfl⟩ := app_parts h2
    have := opA_ok hg (hes i e q hei) (a := a) h1 hσ he (K := wpAny P .any all.toArray Q fuel (listed.setIfInBounds i true)) (Q := Q) (fun v μ' S' w' r1 r2 r3 => by
      obtain ⟨e1, e2⟩ := (he.mono r3.keys r3.st r3.mem).put hn r1 hp
      exact ih _ _ μ' S' w' _ h3 (hg.mono r3.st r3.mem) e2 (by cases hdd : o.dst <;> simpa [Act.put, hdd] using hd) r2 e1 (fun μ2 S2 w2 a2 q1 q2 q3 q4 q5 => hQ μ2 S2 w2 a2 q1 q2 q3 q4 (r3.trans q5)))
    unfold wpOp
    have ho' : all.toArray[i]? = some o := by simpa using hoi
    rw [ho']
    simp only
    split
    · rename_i hw; rw [if_pos hw] at this; exact .inl this
    · rename_i hw; rw [if_neg hw] at this; exact this

theorem put_defers {a : Act} {d : Option Nat} {v : Value} {ds : List Deferred} (h : a.defers = ds) : (a.put d v).defers = ds := by cases d <;> simpa [Act.put] using h

/-- Where it ends. -/
noncomputable def FinΦ (C : Ctx) (n0 : Base) (μ : Nat → Option KS) (S : Nat → Prop) (w : World) : Exit → Act → World → Prop
  | .normal, a', w' => ∃ r, C.end' .fin r ∧ Fin C.keep n0 μ S w r a' w'
  | .ret, a', w' => ∃ r, C.end' .ret r ∧ Fin C.keep n0 μ S w r a' w'
  | .exit id, a', w' => ∃ r, C.end' (.exit id) r ∧ Fin C.keep n0 μ S w r a' w'
  | .goto l, a', w' => ∃ r, C.end' (.goto l) r ∧ Fin C.keep n0 μ S w r a' w'
  | _, _, _ => False
theorem Fin.mono {B : List Nat} {n0 : Base} (h : ExtB B μ S w μ' S' w') {r : St} {a1 : Act} {w1 : World} (hf : Fin B n0 μ' S' w' r a1 w1) : Fin B n0 μ S w r a1 w1 := by
  obtain ⟨μ2, S2, h1, h2, h3, h4, h5⟩ := hf
  exact ⟨μ2, S2, h1, h2, h3, h4, h.trans h5⟩
theorem fin_mono {C : Ctx} {n0 : Base} (h : ExtB C.keep μ S w μ' S' w') : ∀ e a1 w1, FinΦ C n0 μ' S' w' e a1 w1 → FinΦ C n0 μ S w e a1 w1 := by
  intro e a1 w1 hf
  cases e <;> first | exact hf | (obtain ⟨r, hr, hf⟩ := hf; exact ⟨r, hr, hf.mono h⟩)
/-- What a state's demand means at a jump. -/
noncomputable def GΦ (B : List Nat) (n0 : Base) (μ : Nat → Option KS) (S : Nat → Prop) (w : World) (g : St → Prop) (a' : Act) (w' : World) : Prop := ∃ r, g r ∧ Fin B n0 μ S w r a' w'
theorem g_mono {B : List Nat} {n0 : Base} (h : ExtB B μ S w μ' S' w') : ∀ g a1 w1, GΦ B n0 μ' S' w' g a1 w1 → GΦ B n0 μ S w g a1 w1 := by
  rintro g a1 w1 ⟨r, hr, hf⟩
  exact ⟨r, hr, hf.mono h⟩
/-- Loops whose rounds are called stand where they stood. -/
noncomputable def CxOk (P : Program) [Globs P] (μ : Nat → Option KS) (S : Nat → Prop) (w : World) (cx : List (Nat × Cx)) : Prop := GlobOk P S w ∧ ∀ x ∈ cx, μ x.1 = some .stale ∨ ∃ l tmps, μ x.1 = some (.loop l tmps x.2.ps x.2.assign x.2.body) ∧ EnvRep μ S w x.2.env tmps ∧ tmps.size = x.2.nt
theorem okRefs_ext {B : List Nat} : ∀ (n : Nat) (x : AV) (v : Value), x.okRefs (inB B) n = true → ExtB B μ S w μ' S' w' → RepA μ S w x v → RepA μ' S' w' x v := by
  intro n
  induction n with
  | zero => intro x v h; simp [AV.okRefs] at h
  | succ n ih =>
    intro x v h hx hr
    have kk : ∀ {k : Nat}, inB B k = true → ∀ m, μ k = some m → μ' k = some m ∨ μ' k = some .stale := fun hk m hm => hx.keys _ m (by simpa [inB] using hk) hm
    cases hr with
    | bot => exact .bot _
    | pv hp => exact .pv (hp.mono hx.st hx.mem)
    | @ms k off len own v hm =>
      refine .ms ?_
      cases e : μ k with
      | none => rw [e] at hm; exact hm.elim
      | some m => rcases kk (by simpa [AV.okRefs] using h) m e with e' | e' <;> rw [e']
                  · rw [e] at hm; exact hm
                  · exact hm.stale
    | @rp k i off v hm =>
      refine .rp ?_
      cases e : μ k with
      | none => rw [e] at hm; exact hm.elim
      | some m => rcases kk (by simpa [AV.okRefs] using h) m e with e' | e' <;> rw [e']
                  · rw [e] at hm; exact hm
                  · exact hm.stale
    | @bp k off v hm =>
      refine .bp ?_
      cases e : μ k with
      | none => rw [e] at hm; exact hm.elim
      | some m => rcases kk (by simpa [AV.okRefs] using h) m e with e' | e' <;> rw [e']
                  · rw [e] at hm; exact hm
                  · exact hm.stale
    | @mm k v hm =>
      refine .mm ?_
      cases e : μ k with
      | none => rw [e] at hm; exact hm.elim
      | some m => rcases kk (by simpa [AV.okRefs] using h) m e with e' | e' <;> rw [e']
                  · rw [e] at hm; exact hm
                  · exact hm.stale
    | @yl k v hm =>
      refine .yl ?_
      cases e : μ k with
      | none => rw [e] at hm; exact hm.elim
      | some m => rcases kk (by simpa [AV.okRefs] using h) m e with e' | e' <;> rw [e']
                  · rw [e] at hm; exact hm
                  · exact hm.stale
    | nilq hm => exact .nilq hm
    | gp => exact .gp
    | agg hl hr => exact .agg hl fun j q v hq hv => ih q v (by simp only [AV.okRefs] at h; exact List.all_eq_true.1 h q (List.mem_of_getElem? hq)) hx (hr j q v hq hv)
    | tuple hl hr => exact .tuple hl fun j q v hq hv => ih q v (by simp only [AV.okRefs] at h; exact List.all_eq_true.1 h q (List.mem_of_getElem? hq)) hx (hr j q v hq hv)
    | fn hl hr hl' hr' =>
      simp only [AV.okRefs, Bool.and_eq_true] at h
      exact .fn hl (fun j q v hq hv => ih q v (List.all_eq_true.1 h.1 q (List.mem_of_getElem? hq)) hx (hr j q v hq hv)) hl' (fun j q v hq hv => ih q v (List.all_eq_true.1 h.2 q (List.mem_of_getElem? hq)) hx (hr' j q v hq hv))
theorem lk_dropK (B : List Nat) : ∀ (env : Env) (t : Nat), lk (dropK B env) t = (lk env t).map fun x => if x.okRefs (inB B) deep then x else .bot
  | [], t => rfl
  | (i, y) :: r, t => by
    have ih := lk_dropK B r t
    simp only [dropK, List.map_cons, lk_cons] at ih ⊢
    split
    · rfl
    · exact ih
theorem EnvRep.dropK {B : List Nat} {env : Env} {tmps : Array Value} (h : EnvRep μ S w env tmps) (hx : ExtB B μ S w μ' S' w') : EnvRep μ' S' w' (Mir.dropK B env) tmps := fun t x ht => by
  rw [lk_dropK, Option.map_eq_some_iff] at ht
  obtain ⟨y, hy, rfl⟩ := ht
  obtain ⟨v, hv, hr⟩ := h t y hy
  refine ⟨v, hv, ?_⟩
  split
  · exact okRefs_ext deep _ _ (by assumption) hx hr
  · exact .bot v
theorem EnvRep.extB {B : List Nat} {env : Env} {tmps : Array Value} (h : EnvRep μ S w env tmps) (hk : env.all (fun y => y.2.okRefs (inB B) deep) = true) (hx : ExtB B μ S w μ' S' w') : EnvRep μ' S' w' env tmps := fun t x ht => by
  obtain ⟨v, hv, hr⟩ := h t x ht
  refine ⟨v, hv, okRefs_ext deep _ _ ?_ hx hr⟩
  have : ∀ (env : Env), env.all (fun y => y.2.okRefs (inB B) deep) = true → lk env t = some x → x.okRefs (inB B) deep = true := by
    intro env
    induction env with
    | nil => intro _ h; cases h
    | cons y r ih =>
      intro h1 h2
      simp only [List.all_cons, Bool.and_eq_true] at h1
      rw [lk_cons] at h2
      split at h2
      · cases h2; exact h1.1
      · exact ih h1.2 h2
  exact this env hk ht
theorem CxOk.extB {B : List Nat} {cx : List (Nat × Cx)} (h : CxOk P μ S w cx) (hk : cxIn B cx = true) (hx : ExtB B μ S w μ' S' w') : CxOk P μ' S' w' cx := ⟨h.1.mono hx.st hx.mem, fun x hxm => by
  have hk := List.all_eq_true.1 hk x hxm
  simp only [Bool.and_eq_true] at hk
  rcases h.2 x hxm with e | ⟨l, tmps, e, h1, h2⟩
  · rcases hx.keys x.1 _ (by simpa [inB] using hk.1) e with e' | e' <;> exact .inl e'
  · rcases hx.keys x.1 _ (by simpa [inB] using hk.1) e with e' | e'
    · exact .inr ⟨l, tmps, e', h1.extB hk.2 hx, h2⟩
    · exact .inl e'⟩
theorem CxOk.ext {cx : List (Nat × Cx)} (h : CxOk P μ S w cx) (hx : Ext μ S w μ' S' w') : CxOk P μ' S' w' cx := ⟨h.1.mono hx.st hx.mem, fun x hxm => by
  rcases h.2 x hxm with e | ⟨l, tmps, e, h1, h2⟩
  · rcases hx.keys x.1 _ e with e' | e' <;> exact .inl e'
  · rcases hx.keys x.1 _ e with e' | e'
    · exact .inr ⟨l, tmps, e', h1.mono hx.keys hx.st hx.mem, h2⟩
    · exact .inl e'⟩
theorem CxOk.nil (h : GlobOk P S w) : CxOk P μ S w [] := ⟨h, fun x hx => by cases hx⟩
/-- Of code that is left, from a state. -/
noncomputable def Sat (P : Program) [Globs P] (C : Ctx) (k : List It) (s : St) : Prop := ∀ (n0 : Base) (ρ : Option Nat) (μ : Nat → Option KS) (S : Nat → Prop) (w : World) (a : Act), ρ.isSome = C.rnd → a.tmps.size = s.nt → Marks n0 S w a.defers → StoRep μ S w s.sto → EnvRep μ S w s.env a.tmps → CxOk P μ S w C.cx →
  WPx P ρ (FinΦ C n0 μ S w) (GΦ C.keep n0 μ S w) k .normal a w
noncomputable def HookOk (P : Program) [Globs P] (C : Ctx) : List It → Prop
  | [] => True
  | .hook h :: k => (∀ s, h s → Sat P C k s) ∧ HookOk P C k
  | _ :: k => HookOk P C k
theorem HookOk.exit {C : Ctx} {id : Nat} : ∀ {k k' : List It}, exitA id k = some k' → HookOk P C k → HookOk P C k'
  | [], k', h, _ => by cases h
  | .blk id' :: k, k', h, hq => by
    simp only [exitA] at h
    split at h
    · cases h; exact hq
    · exact HookOk.exit (k := k) h hq
  | .code _ :: k, k', h, hq => HookOk.exit (k := k) h hq
  | .loop _ _ :: k, k', h, hq => HookOk.exit (k := k) h hq
  | .hook _ :: k, k', h, hq => HookOk.exit (k := k) h hq.2
  | .scp _ _ :: k, k', h, hq => HookOk.exit (k := k) h hq
  | .ops _ _ _ _ :: k, k', h, hq => HookOk.exit (k := k) h hq
theorem exit_sub {id : Nat} : ∀ {k k' : List It}, exitA id k = some k' → ∀ y ∈ k', y ∈ k
  | [], k', h, _, _ => by cases h
  | .blk id' :: k, k', h, y, hy => by
    simp only [exitA] at h
    split at h
    · cases h; exact List.mem_cons_of_mem _ hy
    · exact List.mem_cons_of_mem _ (exit_sub h y hy)
  | .code _ :: k, k', h, y, hy => List.mem_cons_of_mem _ (exit_sub (k := k) h y hy)
  | .loop _ _ :: k, k', h, y, hy => List.mem_cons_of_mem _ (exit_sub (k := k) h y hy)
  | .hook _ :: k, k', h, y, hy => List.mem_cons_of_mem _ (exit_sub (k := k) h y hy)
  | .scp _ _ :: k, k', h, y, hy => List.mem_cons_of_mem _ (exit_sub (k := k) h y hy)
  | .ops _ _ _ _ :: k, k', h, y, hy => List.mem_cons_of_mem _ (exit_sub (k := k) h y hy)

theorem findLabel_ok : ∀ {c rest : Code} {l : Nat}, findLabel c l = some rest → okCode c = true → okCode rest = true
  | .seq a b, rest, l, h, ho => by
    simp only [okCode, Bool.and_eq_true] at ho
    simp only [findLabel] at h
    split at h
    · rename_i r hr; cases h; simp only [okCode, Bool.and_eq_true]; exact ⟨findLabel_ok hr ho.1, ho.2⟩
    · exact findLabel_ok h ho.2
  | .label l', rest, l, h, _ => by
    simp only [findLabel] at h
    split at h
    · cases h; rfl
    · cases h
  | .skip, _, _, h, _ => by simp [findLabel] at h
  | .region _ _ _, _, _, h, _ => by simp [findLabel] at h
  | .cond _ _ _, _, _, h, _ => by simp [findLabel] at h
  | .block _ _, _, _, h, _ => by simp [findLabel] at h
  | .loop _, _, _, h, _ => by simp [findLabel] at h
  | .scope _, _, _, h, _ => by simp [findLabel] at h
  | .exit _, _, _, h, _ => by simp [findLabel] at h
  | .goto _, _, _, h, _ => by simp [findLabel] at h
  | .ret, _, _, h, _ => by simp [findLabel] at h
  | .rangeFunc _ _ _ _, _, _, h, _ => by simp [findLabel] at h
  | .refuse _, _, _, h, _ => by simp [findLabel] at h
/-- A state as it is told. -/
theorem Sat.absorb {C : Ctx} {c0 nt : Nat} {l : List SI} {ps : List Prop} {v : VT l} {k : List It} {s : St} (hc : cxIn C.keep C.cx = true) (ha : Mir.absorb C.keep c0 nt l s = some (ps, v)) (hp : ∀ p ∈ ps, p) (h : Sat P C k (instSt c0 nt l v)) : Sat P C k s := fun n0 ρ μ S w a hr hn hd hσ he hx => by
  obtain ⟨hnt, μ', S', g1, g2, g3⟩ := absorb_ok ha hp hσ he
  exact WPx_mono (fin_mono g3) (g_mono g3) _ _ _ _ (h n0 ρ μ' S' w a hr (by rw [hn, hnt]; rfl) (hd.mono g3.st g3.mem g3.size) g1 g2 (hx.extB hc g3))
theorem hookOf_sat {C : Ctx} {c0 nt : Nat} {l : List SI} {J : VT l → Prop} {k : List It} {s : St} (hc : cxIn C.keep C.cx = true) (h : hookOf C.keep c0 nt l J s) (hJ : ∀ v, J v → Sat P C k (instSt c0 nt l v)) : Sat P C k s := by
  obtain ⟨ps, v, hv, h⟩ := absorbX_spec h
  obtain ⟨h1, h2⟩ := allP_spec h
  exact Sat.absorb hc hv h1 (hJ v h2)

/-- A scope in which the run jumps back to one label: what holds at a jump counts down. -/
theorem scope_wp {ρ : Option Nat} {c rest : Code} {lab : Nat} {Q : Exit → Act → World → Prop} {a : Act} (hf : findLabel c lab = some rest) (J : Nat → Act → World → Prop)
    (first : c.wpIn (wide ρ) 0 P (Exit.jump lab (fun a w => ∃ N, J N a w) Q) a w)
    (pass : ∀ N a w, J N a w → rest.wpIn (wide ρ) 0 P (Exit.jump lab (fun a' w' => ∃ M, M < N ∧ J M a' w') Q) a w) : (Code.scope c).wpIn (wide ρ) 0 P Q a w := by
  intro b k cs hb _ _
  have hg : gotoIn lab (.inScope c :: k) = some (.code rest :: .inScope c :: k) := by simp [gotoIn, hf]
  have key : ∀ n a w, J n a w → ∃ e a' w', Q e a' w' ∧ ArrivesIn (Machine.fenced P (wide ρ)) P (lone (b.atR a (.code rest :: .inScope c :: k)) cs w) b k cs e a' w' := by
    intro n
    induction n using Nat.strongRecOn with
    | _ n ih =>
      intro a w hJ
      obtain ⟨e, a₁, w₁, hq, harr⟩ := pass n a w hJ b (.inScope c :: k) cs hb trivial (room_wideR _ _)
      cases e with
      | normal => exact ⟨.normal, a₁, w₁, hq, StepsIn.trans harr (.one (fencedR rfl) stepR_inScope)⟩
      | exit id => exact ⟨.exit id, a₁, w₁, hq, fun k' hk => harr.1 k' (by simp [exitTo, hk]), fun hr hk => harr.2 hr (by simp [exitTo, hk])⟩
      | goto l' =>
        obtain ⟨rfl, m, hlt, hJ'⟩ := hq
        obtain ⟨e₂, a₂, w₂, hq₂, harr₂⟩ := ih m hlt a₁ w₁ hJ'
        exact ⟨e₂, a₂, w₂, hq₂, .of_steps (harr.1 _ hg) harr₂⟩
      | ret => exact ⟨_, a₁, w₁, hq, harr⟩
      | panic ch => exact ⟨_, a₁, w₁, hq, harr⟩
      | outgrown => exact ⟨_, a₁, w₁, hq, harr⟩
  obtain ⟨e, a₁, w₁, hq, harr⟩ := first b (.inScope c :: k) cs hb trivial (room_wideR _ _)
  have st : StepsIn (Machine.fenced P (wide ρ)) P (lone (b.atR a (.code (.scope c) :: k)) cs w) (lone (b.atR a (.code c :: .inScope c :: k)) cs w) := .one (fencedR rfl) stepR_scope
  cases e with
  | normal => exact ⟨.normal, a₁, w₁, hq, StepsIn.trans st (StepsIn.trans harr (.one (fencedR rfl) stepR_inScope))⟩
  | exit id => exact ⟨.exit id, a₁, w₁, hq, fun k' hk => StepsIn.trans st (harr.1 k' (by simp [exitTo, hk])), fun hr hk => let ⟨k₁, h1, h2⟩ := harr.2 hr (by simp [exitTo, hk]); ⟨k₁, h1, StepsIn.trans st h2⟩⟩
  | goto l' =>
    obtain ⟨rfl, n, hJ'⟩ := hq
    obtain ⟨e₂, a₂, w₂, hq₂, harr₂⟩ := key n a₁ w₁ hJ'
    exact ⟨e₂, a₂, w₂, hq₂, .of_steps (StepsIn.trans st (harr.1 _ hg)) harr₂⟩
  | ret => exact ⟨_, a₁, w₁, hq, .of_steps st harr⟩
  | panic ch => exact ⟨_, a₁, w₁, hq, .of_steps st harr⟩
  | outgrown => exact ⟨_, a₁, w₁, hq, .of_steps st harr⟩
end Go.Mir
