/- The small machine tells the truth of Go's: code of any kind (condition: what stands in E is the program's). -/
import Derived.Test.YthohhkmlbjffgaaMir16
namespace Go.Mir
open Go Go.RowKit
variable {P : Program} {μ μ' : Nat → Option KS} {S S' : Nat → Prop} {w w' : World} {σ σ' : Store}

theorem wild_ok {E : MEnv} (hE : E.Ok) {n : Nat} (ih : RunOk E n) {g : Nat} {args : List AV} {vs : List Value} {dst : Option Nat} {s s' : St} {a : Act} (h : wildS E (runN E n) g args dst s = some s') (hσ : StoRep μ S w s.sto) (he : EnvRep μ S w s.env a.tmps) (hn : a.tmps.size = s.nt) (ha : PW (RepA μ S w) args vs) :
    Calls E.P g vs.toArray w (fun e' w' => ∃ v μ' S', e' = .returned v ∧ StoRep μ' S' w' s'.sto ∧ EnvRep μ' S' w' s'.env (a.put dst v).tmps ∧ (a.put dst v).tmps.size = s'.nt ∧ Ext μ S w μ' S' w') ∧ (callFunc g vs.toArray).run E.P w = .ok (.enter g vs.toArray) w ∧ s'.clk = s.clk := by
  unfold wildS at h
  split at h
  · rename_i hkeep
    split at h
    · rename_i rs σ1 hc
      split at h
      · rename_i ys m hg
        split at h
        · rename_i env hp
          cases h
          obtain ⟨hcalls, hrun⟩ := callR_ok hE ih hc hσ ha
          refine ⟨hcalls.mono fun e' w' hq => ?_, hrun, rfl⟩
          obtain ⟨μ1, S1, us, bs, rfl, g1, g2, g3, g4⟩ := hq
          have d1 := drop_ok g1 (keepBelow (s.clk + 1))
          have own1 : ∀ k b, owns (keepμ (keepBelow (s.clk + 1)) μ1 k) b → owns (μ1 k) b := fun k b h => by
            unfold keepμ at h
            split at h
            · exact h
            · exact h.elim
          obtain ⟨μ3, k1, k2, k3, k4⟩ := giveBack_ok d1 (rvs_mono g3 fun b h => .inl h) (fun b hb => by
            obtain ⟨q1, q2, _, _⟩ := g4 b hb
            refine ⟨fun h => ?_, fun j hj => q2 j (own1 j b hj)⟩
            rcases h with h | ⟨k, _, h⟩
            · exact q1 h
            · exact q2 k h) hg
          have hkeys : KeysOk μ (keepμ (keepBelow (s.clk + 1)) μ1) := fun k mm hm => by
            have hin : lk s.sto k ≠ none := fun e => by rw [hσ.dom k e] at hm; cases hm
            have hkk : keepBelow (s.clk + 1) k = true := by
              have aux : ∀ l : Store, l.all (fun x => keepBelow (s.clk + 1) x.1) = true → lk l k ≠ none → keepBelow (s.clk + 1) k = true := by
                intro l
                induction l with
                | nil => intro _ h; exact absurd rfl h
                | cons x r ih =>
                  obtain ⟨j, y⟩ := x
                  intro h1 h2
                  simp only [List.all_cons, Bool.and_eq_true] at h1
                  simp only [lk] at h2
                  split at h2
                  · subst_vars; exact h1.1
                  · exact ih h1.2 h2
              exact aux _ hkeep hin
            have hlt : k < (s.clk + 1) * 65536 := by simpa [keepBelow] using hkk
            have e : keepμ (keepBelow (s.clk + 1)) μ1 k = μ1 k := by simp [keepμ, hkk]
            rw [e]
            exact g2.keys k mm hlt hm
          have ext : Ext μ S w μ3 (dropS (keepBelow (s.clk + 1)) μ1 S1) w' := ⟨hkeys.trans k3, fun b h => .inl (g2.st b h), g2.mem, g2.frame, fun k b hb => by
            rcases k4 k b hb with h | h
            · exact g2.own' k b (own1 k b h)
            · obtain ⟨_, _, q3, _⟩ := g4 b h; exact q3, fun b hb => by
            rcases hb with h | ⟨k, _, h⟩
            · exact g2.st' b h
            · exact .inr (g2.own' k b h), g2.size, g2.os, g2.tape, g2.output⟩
          have henv := he.mono ext.keys ext.st ext.mem
          obtain ⟨e1, e2⟩ := henv.put hn (single_rep k2) hp
          exact ⟨_, μ3, _, rfl, k1, e1, e2, ext⟩
        · cases h
      · cases h
    · cases h
  · cases h

theorem StoRep.drew (h : StoRep μ S w σ) : StoRep μ S w.drew σ :=
  ⟨fun k b hb => BlkRep.mono (w := w) (w' := w.drew) (KeysOk.refl _) (fun _ h => h) (fun _ _ => rfl) rfl (fun _ _ => ⟨Iff.rfl, rfl⟩) (h.blk k b hb), h.dom, h.inj, h.lt, h.slt⟩

theorem fin_mono {B : Nat} {r : St} (h : ExtB B μ S w μ' S' w') : ∀ a1 w1, Fin B μ' S' w' r a1 w1 → Fin B μ S w r a1 w1 := by
  rintro a1 w1 ⟨μ2, S2, h1, h2, h3, h4⟩
  exact ⟨μ2, S2, h1, h2, h3, h.trans h4⟩

/-! ### Regions that draw -/
theorem okD_empty (o : Oper) : ∀ (acc : List (List Nat × List Nat)) (i : Nat), okD true o [] [] i acc = true
  | [], _ => rfl
  | (rd, wr) :: r, i => by
    simp only [okD, okD_empty o r (i + 1), Bool.and_true]
    simp [disj]
theorem okD_spec {o : Oper} {rd wr : List Nat} : ∀ {acc : List (List Nat × List Nat)} {n : Nat}, okD true o rd wr n acc = true → ∀ (i : Nat) (p : List Nat × List Nat), acc[i]? = some p →
    (∃ e ∈ o.after, Region.binds .any e = true ∧ e.on = n + i) ∨ (disj wr (p.1 ++ p.2) = true ∧ disj p.2 rd = true)
  | [], n, _, i, p, hp => by simp at hp
  | (rd', wr') :: r, n, h, i, p, hp => by
    simp only [okD, Bool.and_eq_true, Bool.or_eq_true, Bool.not_true, Bool.false_eq_true, false_or] at h
    cases i with
    | zero =>
      simp only [List.getElem?_cons_zero, Option.some.injEq] at hp
      subst hp
      rcases h.1 with h1 | h1
      · left
        rw [Array.any_eq_true] at h1
        obtain ⟨j, hj, he⟩ := h1
        simp only [Bool.and_eq_true, beq_iff_eq] at he
        exact ⟨o.after[j], Array.getElem_mem hj, he.2, he.1⟩
      · exact .inr h1
    | succ i =>
      rcases okD_spec h.2 i p (by simpa using hp) with ⟨e, h1, h2, h3⟩ | h1
      · exact .inl ⟨e, h1, h2, by omega⟩
      · exact .inr h1

theorem disj_spec {a b : List Nat} (h : disj a b = true) : ∀ k ∈ a, k ∉ b := fun k hk hb => by
  have := List.all_eq_true.1 h k hk
  simp at this
  exact this hb

theorem drawn_chain {E : MEnv} {f : Nat} {k : List It} {r : St} {all : List Oper} : ∀ (rest : List Oper) (acc : List (List Nat × List Nat)) (m : Nat) (s : St), runN E m f (.ops all rest true acc :: k) s = some r →
    ∃ es t m', Exec E all rest es s t ∧ m' < m ∧ runN E m' f k t = some r ∧ t.clk = s.clk ∧ t.nt = s.nt ∧ (∀ x ∈ es, x.2 < m) ∧
      ∀ (j : Nat) (o : Oper) (e : Eff) (q : Nat), rest[j]? = some o → es[j]? = some (e, q) → okD true o e.reads (keysOf e.mem) 0 (acc ++ (es.take j).map fun x => (x.1.reads, keysOf x.1.mem)) = true
  | [], acc, m, s, h => by
    cases m with
    | zero => cases h
    | succ m => exact ⟨[], s, m, .nil, by omega, h, rfl, rfl, fun x hx => by simp at hx, fun j o e q h1 => by simp at h1⟩
  | o :: rest, acc, m, s, h => by
    cases m with
    | zero => cases h
    | succ m =>
      have glue : ∀ {e : Eff} {s1 : St}, opEff E (runN E m) all o s = some e → app o e s = some s1 → okD true o e.reads (keysOf e.mem) 0 acc = true → runN E m f (.ops all rest true (acc ++ [(e.reads, keysOf e.mem)]) :: k) s1 = some r → s1.clk = s.clk → s1.nt = s.nt →
          ∃ es t m', Exec E all (o :: rest) es s t ∧ m' < m + 1 ∧ runN E m' f k t = some r ∧ t.clk = s.clk ∧ t.nt = s.nt ∧ (∀ x ∈ es, x.2 < m + 1) ∧
            ∀ (j : Nat) (o' : Oper) (e : Eff) (q : Nat), (o :: rest)[j]? = some o' → es[j]? = some (e, q) → okD true o' e.reads (keysOf e.mem) 0 (acc ++ (es.take j).map fun x => (x.1.reads, keysOf x.1.mem)) = true := by
        intro e s1 h1 h2 h3 h4 h5 h6
        obtain ⟨es, t, m', g1, g2, g3, g4, g5, g6, g7⟩ := drawn_chain rest _ m s1 h4
        refine ⟨(e, m) :: es, t, m', .cons h1 h2 g1, by omega, g3, g4.trans h5, g5.trans h6, fun x hx => ?_, fun j o' e' q hj he => ?_⟩
        · rcases List.mem_cons.1 hx with rfl | hx
          · exact Nat.lt_succ_self m
          · have := g6 x hx; omega
        · cases j with
          | zero =>
            simp only [List.getElem?_cons_zero, Option.some.injEq, Prod.mk.injEq] at hj he
            obtain ⟨rfl, rfl⟩ := he
            subst hj
            simpa using h3
          | succ j =>
            have := g7 j o' e' q (by simpa using hj) (by simpa using he)
            simpa [List.append_assoc] using this
      simp only [runN] at h
      split at h
      · rename_i hw
        split at h
        · rename_i env hp
          refine glue (e := ⟨.pv (.tuple []), [], []⟩) (s1 := { s with env }) (by simp only [opEff, hw]) (by simp only [app, hp, applyMem]) (okD_empty o acc 0) h rfl rfl
        · cases h
      · rename_i hw
        split at h
        · rename_i p hp
          split at h
          · simp at h
          · split at h
            · rename_i e he
              split at h
              · rename_i env hpe
                split at h
                · rename_i hok
                  exact glue (e := e) (s1 := { s with env, sto := applyMem s.sto e.mem }) (by simp only [opEff, hw, hp, he]) (by simp only [app, hpe]) hok h rfl rfl
                · cases h
              · cases h
            · cases h
        · cases h
      · cases h

theorem any_ok {E : MEnv} (hE : E.Ok) {N : Nat} (ihs : ∀ m, m < N → RunOk E m) {all : List Oper} {es : Nat → Option (Eff × Nat)} {t : St} (hes : ∀ i e q, es i = some (e, q) → q < N) {Q : Exit → Act → World → Prop} :
    ∀ (fuel : Nat) (listed : Array Bool) (s : St) (μ : Nat → Option KS) (S : Nat → Prop) (w : World) (a : Act), AAny E all es (fun x => x = t) fuel listed s → a.tmps.size = s.nt → a.defers = [] → StoRep μ S w s.sto → EnvRep μ S w s.env a.tmps →
      (∀ μ' S' w' a', a'.tmps.size = t.nt → a'.defers = [] → StoRep μ' S' w' t.sto → EnvRep μ' S' w' t.env a'.tmps → Ext μ S w μ' S' w' → Q .normal a' w') → wpAny E.P .any all.toArray Q fuel listed a w := by
  intro fuel
  induction fuel with
  | zero => intro listed s μ S w a h hn hd hσ he hQ; obtain ⟨h1, rfl⟩ := h; exact ⟨h1, hQ μ S w a hn hd hσ he (Ext.refl _ _ _)⟩
  | succ fuel ih =>
    intro listed s μ S w a h hn hd hσ he hQ
    refine ⟨fun h0 => by obtain rfl := h.1 h0; exact hQ μ S w a hn hd hσ he (Ext.refl _ _ _), fun i hi => ?_⟩
    obtain ⟨o, e, q, s1, hoi, hei, h1, h2, h3⟩ := h.2 i hi
    obtain ⟨env, hp, rfl⟩ := app_parts h2
    have := op_ok hE (ihs q (hes i e q hei)) (a := a) h1 hσ he (K := wpAny E.P .any all.toArray Q fuel (listed.setIfInBounds i true)) (Q := Q) (fun v μ' S' w' r1 r2 r3 => by
      obtain ⟨e1, e2⟩ := (he.mono r3.keys r3.st r3.mem).put hn r1 hp
      exact ih _ _ μ' S' w' _ h3 e2 (by cases hdd : o.dst <;> simpa [Act.put, hdd] using hd) r2 e1 (fun μ2 S2 w2 a2 q1 q2 q3 q4 q5 => hQ μ2 S2 w2 a2 q1 q2 q3 q4 (r3.trans q5)))
    unfold wpOp
    have ho' : all.toArray[i]? = some o := by simpa using hoi
    rw [ho']
    simp only
    split
    · rename_i hw; rw [if_pos hw] at this; exact .inl this
    · rename_i hw; rw [if_neg hw] at this; exact this

theorem put_defers {a : Act} {d : Option Nat} {v : Value} (h : a.defers = []) : (a.put d v).defers = [] := by cases d <;> simpa [Act.put] using h

theorem norm_clk (E : MEnv) (f c0 : Nat) (c : Code) (s : St) : (norm E f c c0 s).clk = c0 := rfl

theorem run_ok {E : MEnv} (hE : E.Ok) : ∀ n, RunOk E n := by
  intro n
  induction n using Nat.strongRecOn with
  | _ n ihs =>
    intro B f k s r h hok hB hloops μ S w a hn hd hσ he
    cases n with
    | zero => cases h
    | succ n =>
      have ih := ihs n (Nat.lt_succ_self n)
      have fin0 : ∀ {t : St}, t = s → Fin B μ S w t a w := fun e => by subst e; exact ⟨μ, S, hd, hσ, he, (Ext.refl μ S w).toB B⟩
      cases k with
      | nil =>
        simp only [runN, Option.some.injEq] at h
        exact fin0 h.symm
      | cons x k =>
        have hokk : ∀ y ∈ k, okIt y := fun y hy => hok y (List.mem_cons_of_mem _ hy)
        have hlk : ∀ c c0, It.loop c c0 ∈ k → B ≤ c0 * 65536 := fun c c0 hm => hloops c c0 (List.mem_cons_of_mem _ hm)
        have hox := hok x (by simp)
        cases x with
        | code c =>
          show c.wp E.P (WPx E.P (Fin B μ S w r) k) a w
          simp only [runN] at h
          cases c with
          | skip => exact wp_skip (ih B f k s r h hokk hB hlk μ S w a hn hd hσ he)
          | label l => exact wp_label (ih B f k s r h hokk hB hlk μ S w a hn hd hσ he)
          | ret => exact wp_ret (WPx_ret (fin0 (Option.some.inj h).symm) k)
          | seq c1 c2 =>
            simp only [okIt, okCode, Bool.and_eq_true] at hox
            have hi := ih B f _ s r h (fun y hy => by
              simp only [List.mem_cons] at hy
              rcases hy with rfl | rfl | hy
              · exact hox.1
              · exact hox.2
              · exact hokk y hy) hB (fun c c0 hm => by simp at hm; exact hlk c c0 hm) μ S w a hn hd hσ he
            exact wp_seq (wp_mono hi fun e a w hq => by cases e <;> exact hq)
          | cond c c1 c2 =>
            simp only [okIt, okCode, Bool.and_eq_true] at hox
            simp only at h
            split at h
            · rename_i t hc
              have hcv : a.eval c = .bool t := by have := he.ev c; rw [hc] at this; exact repA_lit this
              split at h
              · rename_i ht
                subst ht
                exact wp_cond_true hcv (ih B f _ s r h (fun y hy => by simp at hy; rcases hy with rfl | hy; exact hox.1; exact hokk y hy) hB (fun c c0 hm => by simp at hm; exact hlk c c0 hm) μ S w a hn hd hσ he)
              · rename_i ht
                have : t = false := by simpa using ht
                subst this
                exact wp_cond_false hcv (ih B f _ s r h (fun y hy => by simp at hy; rcases hy with rfl | hy; exact hox.2; exact hokk y hy) hB (fun c c0 hm => by simp at hm; exact hlk c c0 hm) μ S w a hn hd hσ he)
            · cases h
          | block id c =>
            have hi := ih B f _ s r h (fun y hy => by
              simp only [List.mem_cons] at hy
              rcases hy with rfl | rfl | hy
              · exact hox
              · trivial
              · exact hokk y hy) hB (fun c c0 hm => by simp at hm; exact hlk c c0 hm) μ S w a hn hd hσ he
            exact wp_block (wp_mono hi fun e a w hq => by cases e <;> exact hq)
          | exit id =>
            simp only at h
            split at h
            · rename_i k' hk'
              have sub : ∀ {l l' : List It}, exitA id l = some l' → ∀ y ∈ l', y ∈ l := by
                intro l
                induction l with
                | nil => intro l' h; cases h
                | cons z l ihl =>
                  intro l' h y hy
                  cases z with
                  | blk i =>
                    simp only [exitA] at h
                    split at h
                    · cases h; exact List.mem_cons_of_mem _ hy
                    · exact List.mem_cons_of_mem _ (ihl h y hy)
                  | _ => exact List.mem_cons_of_mem _ (ihl h y hy)
              exact wp_exit (WPx_exit hk' (ih B f k' s r h (fun y hy => hokk y (sub hk' y hy)) hB (fun c c0 hm => hlk c c0 (sub hk' _ hm)) μ S w a hn hd hσ he))
            · cases h
          | loop c =>
            obtain ⟨μ', S', g1, g2, g3⟩ := norm_ok (E := E) (f := f) (c0 := s.clk + 1) (c := c) hσ he
            have hB' : B ≤ (s.clk + 1) * 65536 := Nat.le_trans hB (Nat.mul_le_mul_right _ (Nat.le_succ _))
            have hi := ih B f _ _ r h (fun y hy => by
              simp only [List.mem_cons] at hy
              rcases hy with rfl | rfl | hy
              · exact hox
              · exact hox
              · exact hokk y hy) (by rw [norm_clk]; exact hB') (fun c' c0 hm => by
                simp only [List.mem_cons, It.loop.injEq, reduceCtorEq, false_or] at hm
                rcases hm with ⟨_, rfl⟩ | hm
                · exact hB'
                · exact hlk c' c0 hm) μ' S' w a hn hd g1 g2
            have hi' := WPx_mono (P := E.P) (fin_mono (r := r) (g3.mono hB')) _ _ _ _ hi
            exact wp_loop_round (wp_mono hi' fun e a w hq => by cases e <;> exact hq)
          | region id ops dr =>
            cases dr with
            | false =>
              have hi := ih B f _ _ r h (fun y hy => by simp at hy; rcases hy with rfl | hy; trivial; exact hokk y hy) (Nat.le_trans hB (Nat.mul_le_mul_right _ (Nat.le_succ _))) (fun c c0 hm => by simp at hm; exact hlk c c0 hm) μ S w a hn hd hσ he
              refine wp_region_list ?_
              have hi2 : wpList E.P ops.toList.toArray (WPx E.P (Fin B μ S w r) k) ops.toList a w := hi
              simpa using hi2
            | true =>
              have hlex : Region.lexB .any ops = true := by simpa [okIt, okCode] using hox
              simp only [Region.lexB, Bool.and_eq_true] at hlex
              obtain ⟨es, t, m', c1, c2, c3, c4, c5, c6, c7⟩ := drawn_chain ops.toList [] n _ h
              refine wp_region_any hE.mixed ?_
              have hcomp : ∀ i j oj ei qi ej qj, i < j → ops.toList[j]? = some oj → es[i]? = some (ei, qi) → es[j]? = some (ej, qj) → (∀ e ∈ oj.after, Region.binds .any e = true → e.on ≠ i) → Compat ei ej := by
                intro i j oj ei qi ej qj hij hoj hei hej hno
                have hd := c7 j oj ej qj hoj hej
                have hacc : ([] ++ (es.take j).map fun x => (x.1.reads, keysOf x.1.mem))[i]? = some (ei.reads, keysOf ei.mem) := by
                  rw [List.nil_append, List.getElem?_map, List.getElem?_take, if_pos hij, hei]; rfl
                rcases okD_spec hd i _ hacc with ⟨e, h1, h2, h3⟩ | ⟨h1, h2⟩
                · exact absurd (by omega) (hno e h1 h2)
                · refine ⟨fun k hk => ?_, fun k hk => disj_spec h2 k hk⟩
                  have := disj_spec h1 k hk
                  simp only [List.mem_append, not_or] at this
                  exact this
              have hany := AAny_lex (E := E) (Q := fun x => x = t) hcomp ops.toList es 0 (Array.replicate ops.size false) _ t (fun j => by simp) (fun j => by simp) (fun j hj => by omega) (by simpa using hlex.2) c1 rfl
              have := any_ok hE (N := n) (fun m hm => ihs m (by omega)) (t := t) (es := fun i => es[i]?) (fun i e q hi => c6 (e, q) (List.mem_of_getElem? hi)) (Q := WPx E.P (Fin B μ S w r) k) ops.toList.length (Array.replicate ops.size false) _ μ S w.drew a hany hn hd hσ.drew
                (he.mono (w' := w.drew) (KeysOk.refl μ) (fun _ h => h) (fun _ _ => rfl)) (fun μ' S' w' a' q1 q2 q3 q4 q5 => by
                  have ext : Ext μ S w μ' S' w' := (Ext.drew μ S w).trans q5
                  have hi := ihs m' (by omega) B f k t r c3 hokk (by rw [c4]; exact Nat.le_trans hB (Nat.mul_le_mul_right _ (Nat.le_succ _))) hlk μ' S' w' a' q1 q2 q3 q4
                  exact WPx_mono (P := E.P) (fin_mono (r := r) (ext.toB B)) _ _ _ _ hi)
              simpa using this
          | rangeFunc _ _ _ _ => cases h
          | scope _ => cases h
          | goto _ => cases h
          | refuse _ => cases h
        | blk id =>
          simp only [runN] at h
          exact ih B f k s r h hokk hB hlk μ S w a hn hd hσ he
        | loop c c0 =>
          simp only [runN] at h
          obtain ⟨μ', S', g1, g2, g3⟩ := norm_ok (E := E) (f := f) (c0 := c0) (c := c) hσ he
          have hB' : B ≤ c0 * 65536 := hloops c c0 (by simp)
          have hi := ih B f _ _ r h (fun y hy => by
            simp only [List.mem_cons] at hy
            rcases hy with rfl | rfl | hy
            · exact hox
            · exact hox
            · exact hokk y hy) (by rw [norm_clk]; exact hB') (fun c' c1 hm => by
              simp only [List.mem_cons, It.loop.injEq, reduceCtorEq, false_or] at hm
              rcases hm with ⟨_, rfl⟩ | hm
              · exact hB'
              · exact hlk c' c1 hm) μ' S' w a hn hd g1 g2
          have hi' := WPx_mono (P := E.P) (fin_mono (r := r) (g3.mono hB')) _ _ _ _ hi
          exact inLoop_round (wp_mono hi' fun e a w hq => by cases e <;> exact hq)
        | ops all rest dr acc =>
          cases dr with
          | true => trivial
          | false =>
            cases rest with
            | nil =>
              simp only [runN] at h
              exact ih B f k s r h hokk hB hlk μ S w a hn hd hσ he
            | cons o rest =>
              show wpList E.P all.toArray (WPx E.P (Fin B μ S w r) k) (o :: rest) a w
              have hoks : ∀ acc', ∀ y ∈ (It.ops all rest false acc' :: k), okIt y := fun acc' y hy => by
                simp only [List.mem_cons] at hy
                rcases hy with rfl | hy
                · trivial
                · exact hokk y hy
              have hls : ∀ acc' c c0, It.loop c c0 ∈ (It.ops all rest false acc' :: k) → B ≤ c0 * 65536 := fun acc' c c0 hm => by simp at hm; exact hlk c c0 hm
              have glue : ∀ {e : Eff} {env : Env} {acc' : List (List Nat × List Nat)}, opEff E (runN E n) all o s = some e → putE o.dst s.nt e.val s.env = some env → runN E n f (.ops all rest false acc' :: k) { s with env, sto := applyMem s.sto e.mem } = some r →
                  wpList E.P all.toArray (WPx E.P (Fin B μ S w r) k) (o :: rest) a w := by
                intro e env acc' h1 h2 h3
                have := op_ok hE ih (a := a) h1 hσ he (K := wpList E.P all.toArray (WPx E.P (Fin B μ S w r) k) rest) (Q := WPx E.P (Fin B μ S w r) k) (fun v μ' S' w' r1 r2 r3 => by
                  obtain ⟨e1, e2⟩ := (he.mono r3.keys r3.st r3.mem).put hn r1 h2
                  have hi := ih B f _ _ r h3 (hoks acc') hB (hls acc') μ' S' w' _ e2 (put_defers hd) r2 e1
                  exact WPx_mono (P := E.P) (fin_mono (r := r) (r3.toB B)) _ _ _ _ hi)
                unfold wpList
                split
                · rename_i hw; rw [if_pos hw] at this; exact .inl this
                · rename_i hw; rw [if_neg hw] at this; exact this
              simp only [runN] at h
              split at h
              · rename_i hw
                split at h
                · rename_i env hp
                  exact glue (e := ⟨.pv (.tuple []), [], []⟩) (by simp only [opEff, hw]) hp h
                · cases h
              · rename_i hw
                split at h
                · rename_i p hp
                  split at h
                  · rename_i g args hwild
                    simp only [Bool.false_eq_true, if_false] at h
                    split at h
                    · rename_i s' hs'
                      have hpc : p = .call g args := by
                        unfold isWild at hwild
                        split at hwild
                        · split at hwild
                          · cases hwild; rfl
                          · cases hwild
                        · cases hwild
                      subst hpc
                      obtain ⟨vs, p1, p2⟩ := prep_call he.ev hp
                      obtain ⟨q1, q2, q3⟩ := wild_ok hE ih (a := a) hs' hσ he hn p1
                      unfold wpList
                      rw [wantedA_ok he hw, if_pos rfl]
                      left
                      unfold Oper.wp
                      rw [p2, q2, Oper.upon_enter]
                      refine q1.mono fun e' w' hh => ?_
                      obtain ⟨v, μ', S', rfl, k1, k2, k3, k4⟩ := hh
                      have hi := ih B f _ s' r h (hoks acc) (by rw [q3]; exact hB) (hls acc) μ' S' w' _ k3 (put_defers hd) k1 k2
                      exact WPx_mono (P := E.P) (fin_mono (r := r) (k4.toB B)) _ _ _ _ hi
                    · cases h
                  · split at h
                    · rename_i e hee
                      split at h
                      · rename_i env hpe
                        split at h
                        · exact glue (e := e) (by simp only [opEff, hw, hp, hee]) hpe h
                        · cases h
                      · cases h
                    · cases h
                · cases h
              · cases h
end Go.Mir
