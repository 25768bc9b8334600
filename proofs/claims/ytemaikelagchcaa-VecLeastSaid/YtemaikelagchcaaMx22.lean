/- What is shown of code, is true of Go's (lemmas; conditions: what they say). -/
import Derived.Test.YtemaikelagchcaaMx21
set_option linter.all false
set_option linter.unusedVariables false
set_option linter.unusedSimpArgs false
set_option linter.unnecessarySimpa false
namespace Go.Mir
open Go Go.RowKit
variable {P : Program} {μ μ' : Nat → Option KS} {S S' : Nat → Prop} {w w' : World} {σ σ' : Store} {Φ : St → Prop}

theorem StoRep.drew (h : StoRep μ S w σ) : StoRep μ S w.drew σ :=
  ⟨fun k b hb => BlkRep.mono (w := w) (w' := w.drew) (KeysOk.refl _) (fun _ h => h) (fun _ _ => rfl) rfl (fun _ _ => ⟨Iff.rfl, rfl⟩) (h.blk k b hb), h.dom, h.inj, h.lt, h.slt⟩

theorem okD_empty (all : List Oper) (o : Oper) : ∀ (acc : List (List Nat × List Nat)) (i : Nat), okD all true o [] [] i acc = true
  | [], _ => rfl
  | (rd, wr) :: r, i => by
    simp only [okD, okD_empty all o r (i + 1), Bool.and_true]
    simp [disj]
theorem okD_spec {all : List Oper} {o : Oper} {rd wr : List Nat} : ∀ {acc : List (List Nat × List Nat)} {n : Nat}, okD all true o rd wr n acc = true → ∀ (i : Nat) (p : List Nat × List Nat), acc[i]? = some p →
    (∃ e ∈ o.after, Region.binds .any e = true ∧ e.on = n + i) ∨ (disj wr (p.1 ++ p.2) = true ∧ disj p.2 rd = true) ∨ pairOk all[n + i]? o = true
  | [], n, _, i, p, hp => by simp at hp
  | (rd', wr') :: r, n, h, i, p, hp => by
    simp only [okD, Bool.and_eq_true, Bool.or_eq_true, Bool.not_true, Bool.false_eq_true, false_or] at h
    cases i with
    | zero =>
      simp only [List.getElem?_cons_zero, Option.some.injEq] at hp
      subst hp
      rcases h.1 with (h1 | h1) | h1
      · left
        rw [Array.any_eq_true] at h1
        obtain ⟨j, hj, he⟩ := h1
        simp only [Bool.and_eq_true, beq_iff_eq] at he
        exact ⟨o.after[j], Array.getElem_mem hj, he.2, he.1⟩
      · exact .inr (.inl h1)
      · exact .inr (.inr h1)
    | succ i =>
      rcases okD_spec h.2 i p (by simpa using hp) with ⟨e, h1, h2, h3⟩ | h1
      · exact .inl ⟨e, h1, h2, by omega⟩
      · exact .inr (by rw [show n + (i + 1) = n + 1 + i by omega]; exact h1)
theorem disj_spec {a b : List Nat} (h : disj a b = true) : ∀ k ∈ a, k ∉ b := fun k hk hb => by
  have := List.all_eq_true.1 h k hk
  simp at this
  exact this hb

theorem did_op {q : Orc} {all : List Oper} {o : Oper} {s : St} {e : Eff} (hw : wantedA all s.env o = some true) (h : did P q (evE s.env) s.sto (keyOf s.clk o.dst) o e) : opA P q all o s = some e := by
  obtain ⟨p, e0, h1, h2, rfl⟩ := h
  simp only [opA, hw, h1, h2]

/-- A step of operations, as it is shown. -/
theorem opsX {n B : Nat} {ans : List (Nat × Q)} {i : Nat} {all : List Oper} {o : Oper} {rest : List Oper} {dr : Bool} {acc : List (List Nat × List Nat)} {k : List It} {s : St}
    (h : runX P B Φ (n + 1) ans i (.ops all (o :: rest) dr acc :: k) s) : ∃ q e s1 acc' ans', q.Ok P ∧ opA P q all o s = some e ∧ app o e s = some s1 ∧ okD all dr o e.reads (keysOf e.mem) 0 acc = true ∧ (dr = true → acc' = acc ++ [(e.reads, keysOf e.mem)]) ∧ runX P B Φ n ans' (i + 1) (.ops all rest dr acc' :: k) s1 ∧ s1.clk = s.clk ∧ s1.nt = s.nt := by
  rw [runX_succ] at h; simp only at h
  split at h
  · rename_i hw
    obtain ⟨env, hp, h⟩ := putX_spec h
    refine ⟨plainOrc, ⟨.pv (.tuple []), [], []⟩, { s with env }, _, ans, plainOrc_ok, by simp only [opA, hw], by simp only [app, hp, applyMem], ?_, fun hd => by rw [if_pos hd]; rfl, h, rfl, rfl⟩
    cases dr with
    | true => exact okD_empty all o acc 0
    | false =>
      have : ∀ (acc : List (List Nat × List Nat)) (j : Nat), okD all false o [] [] j acc = true := by
        intro acc
        induction acc with
        | nil => intro j; rfl
        | cons x r ih => intro j; obtain ⟨a, b⟩ := x; simp only [okD, ih, Bool.not_false, Bool.true_or, Bool.and_true]
      exact this acc 0
  · rename_i hw
    obtain ⟨q, e, ov, hq, hd, h⟩ := opX_ok h
    rw [AV.laid_eq] at h
    obtain ⟨env, hp, h⟩ := putX_spec h
    split at h
    · rename_i hok
      rw [memX_eq] at h
      exact ⟨q, e, { s with env, sto := applyMem s.sto e.mem }, _, ov ++ ans, hq, did_op hw hd, by simp only [app, hp], hok, fun hd => by rw [if_pos hd], h, rfl, rfl⟩
    · exact h.elim
  · exact h.elim

theorem drawn_chain {B : Nat} {k : List It} {all : List Oper} : ∀ (rest : List Oper) (acc : List (List Nat × List Nat)) (m : Nat) (ans : List (Nat × Q)) (i : Nat) (s : St), runX P B Φ m ans i (.ops all rest true acc :: k) s →
    ∃ es t m' ans' i', Exec P all rest es s t ∧ m' < m ∧ runX P B Φ m' ans' i' k t ∧ t.clk = s.clk ∧ t.nt = s.nt ∧ (∀ x ∈ es, x.2.Ok P) ∧
      ∀ (j : Nat) (o : Oper) (e : Eff) (q : Orc), rest[j]? = some o → es[j]? = some (e, q) → okD all true o e.reads (keysOf e.mem) 0 (acc ++ (es.take j).map fun x => (x.1.reads, keysOf x.1.mem)) = true
  | [], acc, m, ans, i, s, h => by
    cases m with
    | zero => exact h.elim
    | succ m => exact ⟨[], s, m, ans, i, .nil, by omega, h, rfl, rfl, fun x hx => by simp at hx, fun j o e q h1 => by simp at h1⟩
  | o :: rest, acc, m, ans, i, s, h => by
    cases m with
    | zero => exact h.elim
    | succ m =>
      obtain ⟨q, e, s1, acc', ans', hq, h1, h2, h3, h3', h4, h5, h6⟩ := opsX h
      rw [h3' rfl] at h4
      obtain ⟨es, t, m', ans'', i', g1, g2, g3, g4, g5, g6, g7⟩ := drawn_chain rest _ m _ _ s1 h4
      refine ⟨(e, q) :: es, t, m', ans'', i', .cons h1 h2 g1, by omega, g3, g4.trans h5, g5.trans h6, fun x hx => ?_, fun j o' e' q' hj he => ?_⟩
      · rcases List.mem_cons.1 hx with rfl | hx
        · exact hq
        · exact g6 x hx
      · cases j with
        | zero =>
          simp only [List.getElem?_cons_zero, Option.some.injEq, Prod.mk.injEq] at hj he
          obtain ⟨rfl, rfl⟩ := he
          subst hj
          simpa using h3
        | succ j =>
          have := g7 j o' e' q' (by simpa using hj) (by simpa using he)
          simpa [List.append_assoc] using this

theorem any_ok {all : List Oper} {es : Nat → Option (Eff × Orc)} {t : St} (hes : ∀ i e q, es i = some (e, q) → q.Ok P) {Q : Exit → Act → World → Prop} :
    ∀ (fuel : Nat) (listed : Array Bool) (s : St) (μ : Nat → Option KS) (S : Nat → Prop) (w : World) (a : Act), AAny P all es (fun x => x = t) fuel listed s → a.tmps.size = s.nt → a.defers = [] → StoRep μ S w s.sto → EnvRep μ S w s.env a.tmps →
      (∀ μ' S' w' a', a'.tmps.size = t.nt → a'.defers = [] → StoRep μ' S' w' t.sto → EnvRep μ' S' w' t.env a'.tmps → Ext μ S w μ' S' w' → Q .normal a' w') → wpAny P .any all.toArray Q fuel listed a w := by
  intro fuel
  induction fuel with
  | zero => intro listed s μ S w a h hn hd hσ he hQ; obtain ⟨h1, rfl⟩ := h; exact ⟨h1, hQ μ S w a hn hd hσ he (Ext.refl _ _ _)⟩
  | succ fuel ih =>
    intro listed s μ S w a h hn hd hσ he hQ
    refine ⟨fun h0 => by obtain rfl := h.1 h0; exact hQ μ S w a hn hd hσ he (Ext.refl _ _ _), fun i hi => ?_⟩
    obtain ⟨o, e, q, s1, hoi, hei, h1, h2, h3⟩ := h.2 i hi
    obtain ⟨env, hp, rfl⟩ := app_parts h2
    have := opA_ok (hes i e q hei) (a := a) h1 hσ he (K := wpAny P .any all.toArray Q fuel (listed.setIfInBounds i true)) (Q := Q) (fun v μ' S' w' r1 r2 r3 => by
      obtain ⟨e1, e2⟩ := (he.mono r3.keys r3.st r3.mem).put hn r1 hp
      exact ih _ _ μ' S' w' _ h3 e2 (by cases hdd : o.dst <;> simpa [Act.put, hdd] using hd) r2 e1 (fun μ2 S2 w2 a2 q1 q2 q3 q4 q5 => hQ μ2 S2 w2 a2 q1 q2 q3 q4 (r3.trans q5)))
    unfold wpOp
    have ho' : all.toArray[i]? = some o := by simpa using hoi
    rw [ho']
    simp only
    split
    · rename_i hw; rw [if_pos hw] at this; exact .inl this
    · rename_i hw; rw [if_neg hw] at this; exact this

theorem put_defers {a : Act} {d : Option Nat} {v : Value} (h : a.defers = []) : (a.put d v).defers = [] := by cases d <;> simpa [Act.put] using h

/-- Where it ends. -/
def FinΦ (B : Nat) (μ : Nat → Option KS) (S : Nat → Prop) (w : World) (Φ : St → Prop) (a' : Act) (w' : World) : Prop := ∃ r, Φ r ∧ Fin B μ S w r a' w'
theorem fin_mono {B : Nat} (h : ExtB B μ S w μ' S' w') : ∀ a1 w1, FinΦ B μ' S' w' Φ a1 w1 → FinΦ B μ S w Φ a1 w1 := by
  rintro a1 w1 ⟨r, hr, μ2, S2, h1, h2, h3, h4⟩
  exact ⟨r, hr, μ2, S2, h1, h2, h3, h.trans h4⟩
/-- What a state's demand means at a jump. -/
def GΦ (B : Nat) (μ : Nat → Option KS) (S : Nat → Prop) (w : World) (g : St → Prop) (a' : Act) (w' : World) : Prop := ∃ r, g r ∧ a'.tmps.size = r.nt ∧ Fin B μ S w r a' w'
theorem g_mono {B : Nat} (h : ExtB B μ S w μ' S' w') : ∀ g a1 w1, GΦ B μ' S' w' g a1 w1 → GΦ B μ S w g a1 w1 := by
  rintro g a1 w1 ⟨r, hr, hn, μ2, S2, h1, h2, h3, h4⟩
  exact ⟨r, hr, hn, μ2, S2, h1, h2, h3, h.trans h4⟩
/-- Of code that is left, from a state. -/
def Sat (P : Program) (B : Nat) (Φ : St → Prop) (k : List It) (s : St) : Prop := ∀ (μ : Nat → Option KS) (S : Nat → Prop) (w : World) (a : Act), a.tmps.size = s.nt → a.defers = [] → StoRep μ S w s.sto → EnvRep μ S w s.env a.tmps → WPx P (FinΦ B μ S w Φ) (GΦ B μ S w) k .normal a w
def HookOk (P : Program) (B : Nat) (Φ : St → Prop) : List It → Prop
  | [] => True
  | .hook h :: k => (∀ s, h s → Sat P B Φ k s) ∧ HookOk P B Φ k
  | _ :: k => HookOk P B Φ k
theorem HookOk.exit {B : Nat} {id : Nat} : ∀ {k k' : List It}, exitA id k = some k' → HookOk P B Φ k → HookOk P B Φ k'
  | [], k', h, _ => by cases h
  | .blk id' :: k, k', h, hq => by
    simp only [exitA] at h
    split at h
    · cases h; exact hq
    · exact HookOk.exit (k := k) h hq
  | .code _ :: k, k', h, hq => HookOk.exit (k := k) h hq
  | .loop _ _ :: k, k', h, hq => HookOk.exit (k := k) h hq
  | .hook _ :: k, k', h, hq => HookOk.exit (k := k) h hq.2
  | .scp _ _ :: k, k', h, hq => HookOk.exit (k := k) h hq
  | .ops _ _ _ _ :: k, k', h, hq => HookOk.exit (k := k) h hq
theorem exit_sub {id : Nat} : ∀ {k k' : List It}, exitA id k = some k' → ∀ y ∈ k', y ∈ k
  | [], k', h, _, _ => by cases h
  | .blk id' :: k, k', h, y, hy => by
    simp only [exitA] at h
    split at h
    · cases h; exact List.mem_cons_of_mem _ hy
    · exact List.mem_cons_of_mem _ (exit_sub h y hy)
  | .code _ :: k, k', h, y, hy => List.mem_cons_of_mem _ (exit_sub (k := k) h y hy)
  | .loop _ _ :: k, k', h, y, hy => List.mem_cons_of_mem _ (exit_sub (k := k) h y hy)
  | .hook _ :: k, k', h, y, hy => List.mem_cons_of_mem _ (exit_sub (k := k) h y hy)
  | .scp _ _ :: k, k', h, y, hy => List.mem_cons_of_mem _ (exit_sub (k := k) h y hy)
  | .ops _ _ _ _ :: k, k', h, y, hy => List.mem_cons_of_mem _ (exit_sub (k := k) h y hy)

theorem findLabel_ok : ∀ {c rest : Code} {l : Nat}, findLabel c l = some rest → okCode c = true → okCode rest = true
  | .seq a b, rest, l, h, ho => by
    simp only [okCode, Bool.and_eq_true] at ho
    simp only [findLabel] at h
    split at h
    · rename_i r hr; cases h; simp only [okCode, Bool.and_eq_true]; exact ⟨findLabel_ok hr ho.1, ho.2⟩
    · exact findLabel_ok h ho.2
  | .label l', rest, l, h, _ => by
    simp only [findLabel] at h
    split at h
    · cases h; rfl
    · cases h
  | .skip, _, _, h, _ => by simp [findLabel] at h
  | .region _ _ _, _, _, h, _ => by simp [findLabel] at h
  | .cond _ _ _, _, _, h, _ => by simp [findLabel] at h
  | .block _ _, _, _, h, _ => by simp [findLabel] at h
  | .loop _, _, _, h, _ => by simp [findLabel] at h
  | .scope _, _, _, h, _ => by simp [findLabel] at h
  | .exit _, _, _, h, _ => by simp [findLabel] at h
  | .goto _, _, _, h, _ => by simp [findLabel] at h
  | .ret, _, _, h, _ => by simp [findLabel] at h
  | .rangeFunc _ _ _ _, _, _, h, _ => by simp [findLabel] at h
  | .refuse _, _, _, h, _ => by simp [findLabel] at h
/-- A state as it is told. -/
theorem Sat.absorb {B c0 nt : Nat} {l : List SI} {ps : List Prop} {v : VT l} {k : List It} {s : St} (ha : Mir.absorb B c0 nt l s = some (ps, v)) (hp : ∀ p ∈ ps, p) (h : Sat P B Φ k (instSt c0 nt l v)) : Sat P B Φ k s := fun μ S w a hn hd hσ he => by
  obtain ⟨hnt, μ', S', g1, g2, g3⟩ := absorb_ok ha hp hσ he
  exact WPx_mono (fin_mono g3) (g_mono g3) _ _ _ _ (h μ' S' w a (by rw [hn, hnt]; rfl) hd g1 g2)
theorem hookOf_sat {B c0 nt : Nat} {l : List SI} {J : VT l → Prop} {k : List It} {s : St} (h : hookOf B c0 nt l J s) (hJ : ∀ v, J v → Sat P B Φ k (instSt c0 nt l v)) : Sat P B Φ k s := by
  obtain ⟨ps, v, hv, h⟩ := absorbX_spec h
  obtain ⟨h1, h2⟩ := allP_spec h
  exact Sat.absorb hv h1 (hJ v h2)

/-- A scope in which the run jumps back to one label: what holds at a jump counts down. -/
theorem scope_wp {c rest : Code} {lab : Nat} {Q : Exit → Act → World → Prop} {a : Act} (hf : findLabel c lab = some rest) (J : Nat → Act → World → Prop)
    (first : c.wp P (Exit.jump lab (fun a w => ∃ N, J N a w) Q) a w)
    (pass : ∀ N a w, J N a w → rest.wp P (Exit.jump lab (fun a' w' => ∃ M, M < N ∧ J M a' w') Q) a w) : (Code.scope c).wp P Q a w := by
  intro b k cs
  have hg : gotoIn lab (.inScope c :: k) = some (.code rest :: .inScope c :: k) := by simp [gotoIn, hf]
  have key : ∀ n a w, J n a w → ∃ e a' w', Q e a' w' ∧ Arrives P (lone (b.at a (.code rest :: .inScope c :: k)) cs w) b k cs e a' w' := by
    intro n
    induction n using Nat.strongRecOn with
    | _ n ih =>
      intro a w hJ
      obtain ⟨e, a₁, w₁, hq, harr⟩ := pass n a w hJ b (.inScope c :: k) cs
      cases e with
      | normal => exact ⟨.normal, a₁, w₁, hq, Steps.trans harr (.one step_inScope)⟩
      | exit id => exact ⟨.exit id, a₁, w₁, hq, fun k' hk => harr k' (by simp [exitTo, hk])⟩
      | goto l' =>
        obtain ⟨rfl, m, hlt, hJ'⟩ := hq
        obtain ⟨e₂, a₂, w₂, hq₂, harr₂⟩ := ih m hlt a₁ w₁ hJ'
        exact ⟨e₂, a₂, w₂, hq₂, .of_steps (harr _ hg) harr₂⟩
      | ret => exact ⟨_, a₁, w₁, hq, harr⟩
      | panic ch => exact ⟨_, a₁, w₁, hq, harr⟩
      | outgrown => exact ⟨_, a₁, w₁, hq, harr⟩
  obtain ⟨e, a₁, w₁, hq, harr⟩ := first b (.inScope c :: k) cs
  cases e with
  | normal => exact ⟨.normal, a₁, w₁, hq, .head step_scope (Steps.trans harr (.one step_inScope))⟩
  | exit id => exact ⟨.exit id, a₁, w₁, hq, fun k' hk => .head step_scope (harr k' (by simp [exitTo, hk]))⟩
  | goto l' =>
    obtain ⟨rfl, n, hJ'⟩ := hq
    obtain ⟨e₂, a₂, w₂, hq₂, harr₂⟩ := key n a₁ w₁ hJ'
    exact ⟨e₂, a₂, w₂, hq₂, .of_steps (.head step_scope (harr _ hg)) harr₂⟩
  | ret => exact ⟨_, a₁, w₁, hq, .of_steps (.one step_scope) harr⟩
  | panic ch => exact ⟨_, a₁, w₁, hq, .of_steps (.one step_scope) harr⟩
  | outgrown => exact ⟨_, a₁, w₁, hq, .of_steps (.one step_scope) harr⟩

theorem runX_ok {B : Nat} : ∀ (n : Nat) (ans : List (Nat × Q)) (i : Nat) (k : List It) (s : St), runX P B Φ n ans i k s → P.follows .mixedOrders = true → (∀ x ∈ k, okIt x) → HookOk P B Φ k → Sat P B Φ k s := by
  intro n
  induction n using Nat.strongRecOn with
  | _ n ihs =>
    intro ans i k s h hmix hok hh
    cases n with
    | zero => exact h.elim
    | succ n =>
      have ih := fun ans i k s h hok hh => ihs n (Nat.lt_succ_self n) ans i k s h hmix hok hh
      cases k with
      | nil => intro μ S w a hn hd hσ he; exact ⟨s, h, μ, S, hd, hσ, he, (Ext.refl μ S w).toB B⟩
      | cons x k =>
        have hokk : ∀ y ∈ k, okIt y := fun y hy => hok y (List.mem_cons_of_mem _ hy)
        have hox := hok x (by simp)
        cases x with
        | code c =>
          have hh' : HookOk P B Φ k := hh
          rw [runX_succ] at h
          cases c with
          | skip => exact fun μ S w a hn hd hσ he => wp_skip (ih ans i k s h hokk hh' μ S w a hn hd hσ he)
          | label l => exact fun μ S w a hn hd hσ he => wp_label (ih ans i k s h hokk hh' μ S w a hn hd hσ he)
          | ret => exact fun μ S w a hn hd hσ he => wp_ret (WPx_ret ⟨s, h, μ, S, hd, hσ, he, (Ext.refl μ S w).toB B⟩ k)
          | seq c1 c2 =>
            simp only [okIt, okCode, Bool.and_eq_true] at hox
            have glue : Sat P B Φ (.code c1 :: .code c2 :: k) s → Sat P B Φ (.code (.seq c1 c2) :: k) s := fun hi μ S w a hn hd hσ he =>
              wp_seq (wp_mono (hi μ S w a hn hd hσ he) fun e a w hq => by cases e <;> exact hq)
            have ok2 : ∀ y ∈ (It.code c2 :: k), okIt y := fun y hy => by
              rcases List.mem_cons.1 hy with rfl | hy
              · exact hox.2
              · exact hokk y hy
            simp only at h
            split at h
            · rename_i l hl
              have hJ : ∀ v, runX P B Φ n ans i (.code c2 :: k) (instSt (s.clk + 1) s.nt l v) → Sat P B Φ (.code c2 :: k) (instSt (s.clk + 1) s.nt l v) := fun v hv =>
                ih ans i _ _ hv ok2 hh'
              have hi := ih ans i _ s h (fun y hy => by
                simp only [List.mem_cons] at hy
                rcases hy with rfl | rfl | hy
                · exact hox.1
                · trivial
                · exact ok2 y (List.mem_cons.2 hy)) ⟨fun s' hs' => hookOf_sat hs' hJ, hh'⟩
              exact glue fun μ S w a hn hd hσ he => wp_mono (hi μ S w a hn hd hσ he) fun e a w hq => by simpa only [WPx] using hq
            · exact glue (ih ans i _ s h (fun y hy => by
                simp only [List.mem_cons] at hy
                rcases hy with rfl | hy
                · exact hox.1
                · exact ok2 y (List.mem_cons.2 hy)) hh')
          | cond c c1 c2 =>
            simp only [okIt, okCode, Bool.and_eq_true] at hox
            simp only at h
            split at h
            · rename_i hc
              exact fun μ S w a hn hd hσ he => wp_cond_true (by have := he.ev c; rw [hc] at this; exact repA_lit this) (ih ans i _ s h (fun y hy => by simp at hy; rcases hy with rfl | hy; exact hox.1; exact hokk y hy) hh' μ S w a hn hd hσ he)
            · rename_i hc
              exact fun μ S w a hn hd hσ he => wp_cond_false (by have := he.ev c; rw [hc] at this; exact repA_lit this) (ih ans i _ s h (fun y hy => by simp at hy; rcases hy with rfl | hy; exact hox.2; exact hokk y hy) hh' μ S w a hn hd hσ he)
            · rename_i es hc
              intro μ S w a hn hd hσ he
              obtain ⟨b, hb, hnil⟩ : ∃ b, a.eval c = .bool b ∧ (b = true → ∀ p ∈ es, p.cells = []) := by
                have := he.ev c; rw [hc] at this
                generalize a.eval c = u at this
                cases this with | nilq h => exact ⟨_, rfl, by simpa using h⟩
              cases b with
              | true => exact wp_cond_true hb (ih ans i _ s (h.1 (hnil rfl)) (fun y hy => by simp at hy; rcases hy with rfl | hy; exact hox.1; exact hokk y hy) hh' μ S w a hn hd hσ he)
              | false => exact wp_cond_false hb (ih ans i _ s h.2 (fun y hy => by simp at hy; rcases hy with rfl | hy; exact hox.2; exact hokk y hy) hh' μ S w a hn hd hσ he)
            · rename_i es hc
              intro μ S w a hn hd hσ he
              obtain ⟨b, hb, hnil⟩ : ∃ b, a.eval c = .bool b ∧ (b = false → ∀ p ∈ es, p.cells = []) := by
                have := he.ev c; rw [hc] at this
                generalize a.eval c = u at this
                cases this with | nilq h => exact ⟨_, rfl, by simpa using h⟩
              cases b with
              | true => exact wp_cond_true hb (ih ans i _ s h.1 (fun y hy => by simp at hy; rcases hy with rfl | hy; exact hox.1; exact hokk y hy) hh' μ S w a hn hd hσ he)
              | false => exact wp_cond_false hb (ih ans i _ s (h.2 (hnil rfl)) (fun y hy => by simp at hy; rcases hy with rfl | hy; exact hox.2; exact hokk y hy) hh' μ S w a hn hd hσ he)
            · exact h.elim
          | block id c =>
            have hi := ih ans i _ s h (fun y hy => by
              simp only [List.mem_cons] at hy
              rcases hy with rfl | rfl | hy
              · exact hox
              · trivial
              · exact hokk y hy) hh'
            exact fun μ S w a hn hd hσ he => wp_block (wp_mono (hi μ S w a hn hd hσ he) fun e a w hq => by cases e <;> exact hq)
          | exit id =>
            simp only at h
            split at h
            · rename_i k' hk'
              have hi := ih ans i k' s h (fun y hy => hokk y (exit_sub hk' y hy)) (hh'.exit hk')
              exact fun μ S w a hn hd hσ he => wp_exit (WPx_exit hk' (hi μ S w a hn hd hσ he))
            · exact h.elim
          | loop c =>
            simp only at h
            split at h
            · rename_i l hl
              obtain ⟨ps, v0, hv0, h⟩ := absorbX_spec h
              obtain ⟨hps, N, hN⟩ := allP_spec h
              have okl : ∀ h, ∀ y ∈ (It.code c :: .hook h :: .loop c (s.clk + 1) :: k), okIt y := fun h y hy => by
                simp only [List.mem_cons] at hy
                rcases hy with rfl | rfl | rfl | hy
                · exact hox
                · trivial
                · exact hox
                · exact hokk y hy
              have key : ∀ (N : Nat) (v : VT l), itL (fun L v => runX P B Φ n ans i (.code c :: .hook (hookOf B (s.clk + 1) s.nt l L) :: .loop c (s.clk + 1) :: k) (instSt (s.clk + 1) s.nt l v)) N v →
                  Sat P B Φ (.code c :: .loop c (s.clk + 1) :: k) (instSt (s.clk + 1) s.nt l v) := by
                intro N
                induction N with
                | zero => intro v hv; exact hv.elim
                | succ N ihN =>
                  intro v hv
                  have hi := ih ans i _ _ hv (okl _) ⟨fun s' hs' => hookOf_sat hs' fun v' hv' => (by
                    have := ihN v' hv'
                    exact fun μ S w a hn hd hσ he => inLoop_round (wp_mono (this μ S w a hn hd hσ he) fun e a w hq => by cases e <;> exact hq)), hh'⟩
                  exact fun μ S w a hn hd hσ he => wp_mono (hi μ S w a hn hd hσ he) fun e a w hq => by simpa only [WPx] using hq
              have h1 := Sat.absorb hv0 hps (key N v0 hN)
              exact fun μ S w a hn hd hσ he => wp_loop_round (wp_mono (h1 μ S w a hn hd hσ he) fun e a w hq => by cases e <;> exact hq)
            · exact h.elim
          | region id ops dr =>
            have hop : Sat P B Φ (.code (.region id ops dr) :: k) s ∨ True := .inr trivial
            clear hop
            have main : ∀ (μ : Nat → Option KS) (S : Nat → Prop) (w : World) (a : Act), a.tmps.size = s.nt → a.defers = [] → StoRep μ S w s.sto → EnvRep μ S w s.env a.tmps →
                runX P B Φ n ans (id * 1000) (.ops ops.toList ops.toList dr [] :: k) ⟨s.env, s.sto, s.clk + 1, s.nt⟩ → (Code.region id ops dr).wp P (WPx P (FinΦ B μ S w Φ) (GΦ B μ S w) k) a w := by
              intro μ S w a hn hd hσ he h
              cases dr with
              | false =>
                have hi := ih ans (id * 1000) _ _ h (fun y hy => by simp at hy; rcases hy with rfl | hy; trivial; exact hokk y hy) hh' μ S w a hn hd hσ he
                refine wp_region_list ?_
                have hi2 : wpList P ops.toList.toArray (WPx P (FinΦ B μ S w Φ) (GΦ B μ S w) k) ops.toList a w := hi
                simpa using hi2
              | true =>
                have hlex : Region.lexB .any ops = true := by simpa [okIt, okCode] using hox
                simp only [Region.lexB, Bool.and_eq_true] at hlex
                obtain ⟨es, t, m', ans', i', c1, c2, c3, c4, c5, c6, c7⟩ := drawn_chain ops.toList [] n _ _ _ h
                refine wp_region_any hmix ?_
                have hcomp : ∀ i j oj ei qi ej qj, i < j → ops.toList[j]? = some oj → es[i]? = some (ei, qi) → es[j]? = some (ej, qj) → (∀ e ∈ oj.after, Region.binds .any e = true → e.on ≠ i) → Compat ops.toList[i]? oj ei ej := by
                  intro i j oj ei qi ej qj hij hoj hei hej hno
                  have hd := c7 j oj ej qj hoj hej
                  have hacc : ([] ++ (es.take j).map fun x => (x.1.reads, keysOf x.1.mem))[i]? = some (ei.reads, keysOf ei.mem) := by
                    rw [List.nil_append, List.getElem?_map, List.getElem?_take, if_pos hij, hei]; rfl
                  rcases okD_spec hd i _ hacc with ⟨e, h1, h2, h3⟩ | ⟨h1, h2⟩ | h1
                  · exact absurd (by omega) (hno e h1 h2)
                  rotate_left
                  · exact .inr (by simpa using h1)
                  · refine .inl ⟨fun k hk => ?_, fun k hk => disj_spec h2 k hk⟩
                    have := disj_spec h1 k hk
                    simp only [List.mem_append, not_or] at this
                    exact this
                have hany := AAny_lex (P := P) (Q := fun x => x = t) hcomp ops.toList es 0 (Array.replicate ops.size false) _ t (fun j => by simp) (fun j => by simp) (fun j hj => by omega) (by simpa using hlex.2) c1 rfl
                have := any_ok (t := t) (es := fun i => es[i]?) (fun i e q hi => c6 (e, q) (List.mem_of_getElem? hi)) (Q := WPx P (FinΦ B μ S w Φ) (GΦ B μ S w) k) ops.toList.length (Array.replicate ops.size false) _ μ S w.drew a hany hn hd hσ.drew
                  (he.mono (w' := w.drew) (KeysOk.refl μ) (fun _ h => h) (fun _ _ => rfl)) (fun μ' S' w' a' q1 q2 q3 q4 q5 => by
                    have ext : Ext μ S w μ' S' w' := (Ext.drew μ S w).trans q5
                    have hi := ihs m' (by omega) ans' i' k t c3 hmix hokk hh' μ' S' w' a' q1 q2 q3 q4
                    exact WPx_mono (P := P) (fin_mono (ext.toB B)) (g_mono (ext.toB B)) _ _ _ _ hi)
                simpa using this
            simp only at h
            split at h
            · exact fun μ S w a hn hd hσ he => main μ S w a hn hd hσ he (lensX_ok hσ he h)
            · exact fun μ S w a hn hd hσ he => main μ S w a hn hd hσ he h
          | rangeFunc _ _ _ _ => exact h.elim
          | scope c =>
            simp only at h
            split at h
            · rename_i lab l hl
              split at h
              · rename_i rest hrest
                have okr := findLabel_ok hrest hox
                have oks : ∀ (c' : Code) (g : St → Prop), okCode c' = true → ∀ y ∈ (It.code c' :: .scp lab g :: k), okIt y := fun c' g hc y hy => by
                  simp only [List.mem_cons] at hy
                  rcases hy with rfl | rfl | hy
                  · exact hc
                  · trivial
                  · exact hokk y hy
                let F : (VT l → Prop) → VT l → Prop := fun L v => runX P B Φ n ans i (.code rest :: .scp lab (hookOf B (s.clk + 1) s.nt l L) :: k) (instSt (s.clk + 1) s.nt l v)
                let HJ : Nat → St → Prop := fun N r => ∃ ps v, Mir.absorb B (s.clk + 1) s.nt l r = some (ps, v) ∧ (∀ p ∈ ps, p) ∧ itL F N v
                have ofHook : ∀ N r, hookOf B (s.clk + 1) s.nt l (itL F N) r → HJ N r := fun N r hr => by
                  obtain ⟨ps, v, hv, hp⟩ := absorbX_spec hr
                  obtain ⟨q1, q2⟩ := allP_spec hp
                  exact ⟨ps, v, hv, q1, q2⟩
                have ofLo : ∀ r, hookOf B (s.clk + 1) s.nt l (fun v => Lo F v) r → ∃ N, HJ N r := fun r hr => by
                  obtain ⟨ps, v, hv, hp⟩ := absorbX_spec hr
                  obtain ⟨q1, N, q2⟩ := allP_spec hp
                  exact ⟨N, ps, v, hv, q1, q2⟩
                have first : Sat P B Φ (.code c :: .scp lab (hookOf B (s.clk + 1) s.nt l (fun v => Lo F v)) :: k) s := ih ans i _ _ h (oks _ _ hox) hh'
                intro μ S w a hn hd hσ he
                refine scope_wp hrest (fun N a' w' => GΦ B μ S w (HJ N) a' w') (wp_mono (first μ S w a hn hd hσ he) fun e a' w' hq => ?_) fun N a' w' hJ => ?_
                · cases e with
                  | goto l' =>
                    obtain ⟨e1, r, hr, hr2⟩ := hq
                    obtain ⟨N, hN⟩ := ofLo r hr
                    exact ⟨e1, N, r, hN, hr2⟩
                  | _ => exact hq
                · obtain ⟨r, ⟨ps, v, hv, hps, hN⟩, hsz, μ', S', hd', hσ', he', hx⟩ := hJ
                  cases N with
                  | zero => exact hN.elim
                  | succ N =>
                    have hs : Sat P B Φ (.code rest :: .scp lab (hookOf B (s.clk + 1) s.nt l (itL F N)) :: k) r := Sat.absorb hv hps (ih ans i _ _ hN (oks _ _ okr) hh')
                    refine wp_mono (hs μ' S' w' a' hsz hd' hσ' he') fun e a2 w2 hq => ?_
                    have hq := WPx_mono (P := P) (fin_mono hx) (g_mono hx) _ _ _ _ hq
                    cases e with
                    | goto l' =>
                      obtain ⟨e1, r2, hr2, hr3⟩ := hq
                      exact ⟨e1, N, Nat.lt_succ_self N, r2, ofHook N r2 hr2, hr3⟩
                    | _ => exact hq
              · exact h.elim
            · exact h.elim
          | goto lab =>
            simp only at h
            split at h
            · rename_i g hg
              exact fun μ S w a hn hd hσ he => wp_goto (WPx_goto hg ⟨s, h, hn, μ, S, hd, hσ, he, (Ext.refl μ S w).toB B⟩)
            · exact h.elim
          | refuse _ => exact h.elim
        | scp lab g =>
          rw [runX_succ] at h; simp only at h
          have hi := ih ans i k s h hokk hh
          exact fun μ S w a hn hd hσ he => hi μ S w a hn hd hσ he
        | blk id => exact ih ans i k s h hokk hh
        | hook hk =>
          have := hh.1 s h
          exact fun μ S w a hn hd hσ he => by simp only [WPx]; exact this μ S w a hn hd hσ he
        | loop c c0 => exact h.elim
        | ops all rest dr acc =>
          have hh' : HookOk P B Φ k := hh
          cases dr with
          | true => exact fun μ S w a hn hd hσ he => trivial
          | false =>
            cases rest with
            | nil => exact ih ans i k s h hokk hh'
            | cons o rest =>
              intro μ S w a hn hd hσ he
              show wpList P all.toArray (WPx P (FinΦ B μ S w Φ) (GΦ B μ S w) k) (o :: rest) a w
              obtain ⟨q, e, s1, acc', ans', hq, h1, h2, _, _, h4, h5, h6⟩ := opsX h
              obtain ⟨env, hp, rfl⟩ := app_parts h2
              have := opA_ok hq (a := a) h1 hσ he (K := wpList P all.toArray (WPx P (FinΦ B μ S w Φ) (GΦ B μ S w) k) rest) (Q := WPx P (FinΦ B μ S w Φ) (GΦ B μ S w) k) (fun v μ' S' w' r1 r2 r3 => by
                obtain ⟨e1, e2⟩ := (he.mono r3.keys r3.st r3.mem).put hn r1 hp
                have hi := ih ans' (i + 1) _ _ h4 (fun y hy => by simp only [List.mem_cons] at hy; rcases hy with rfl | hy; trivial; exact hokk y hy) hh' μ' S' w' _ e2 (put_defers hd) r2 e1
                exact WPx_mono (P := P) (fin_mono (r3.toB B)) (g_mono (r3.toB B)) _ _ _ _ hi)
              unfold wpList
              split
              · rename_i hw; rw [if_pos hw] at this; exact .inl this
              · rename_i hw; rw [if_neg hw] at this; exact this
end Go.Mir
