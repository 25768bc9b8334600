/- Contracts of calls; operations with answers, in whatever order (definitions and lemmas; conditions: what they say). -/
import Derived.Test.YthohhkmlbjffgaaMx15
set_option linter.all false
set_option linter.unusedVariables false
set_option linter.unusedSimpArgs false
set_option linter.unnecessarySimpa false
namespace Go.Mir
open Go Go.RowKit
variable {P : Program} {σ σ' : Store}

/-- Memory grew: what was, stays. -/
structure Grown (S : Nat → Prop) (w : World) (S' : Nat → Prop) (w' : World) : Prop where
  st : ∀ b, S b → S' b
  st' : ∀ b, S' b → S b ∨ w.heap.size ≤ b
  slt : ∀ b, S' b → b < w'.heap.size
  mem : ∀ b, b < w.heap.size → w'.heap[b]? = w.heap[b]?
  size : w.heap.size ≤ w'.heap.size
  os : w'.os = w.os
  tape : w'.tape = w.tape
  output : w'.output = w.output

def resVal (vs : List Value) : Value := if h : vs.toArray.size = 1 then vs.toArray[0] else .tuple vs.toArray

/-- What a call gives, of arguments that stand. -/
def CtP (P : Program) (g : Nat) (ps : List PV) (Φ : List RV → Prop) : Prop := ∀ (S : Nat → Prop) (w : World) (vs : List Value), (∀ b, S b → b < w.heap.size) → PW (Rep S w) ps vs →
  Calls P g vs.toArray w (fun e w' => ∃ S' rs us bs, Φ rs ∧ e = .returned (resVal us) ∧ RVs S' w' rs us bs ∧ Grown S w S' w' ∧ ∀ b ∈ bs, ¬ S' b ∧ w.heap.size ≤ b ∧ b < w'.heap.size) ∧ (callFunc g vs.toArray).run P w = .ok (.enter g vs.toArray) w
/-- A contract: these arguments, these results. -/
def Ct (P : Program) (g : Nat) (ps : List PV) (rs : List RV) : Prop := CtP P g ps (fun r => RvsLe r rs)

theorem CtP.mono {g : Nat} {ps : List PV} {Φ Ψ : List RV → Prop} (h : CtP P g ps Φ) (hΦ : ∀ r, Φ r → Ψ r) : CtP P g ps Ψ := fun S w vs hS ha => by
  obtain ⟨h1, h2⟩ := h S w vs hS ha
  exact ⟨h1.mono fun e w' ⟨S', rs, us, bs, k, r⟩ => ⟨S', rs, us, bs, hΦ rs k, r⟩, h2⟩
theorem CtP.args {g : Nat} {ps qs : List PV} {Φ : List RV → Prop} (h : CtP P g qs Φ) (hl : PVsLe ps qs) : CtP P g ps Φ := fun S w vs hS ha => h S w vs hS ⟨by rw [← hl.1]; exact ha.1, fun j q v hq hv => by
  obtain ⟨p, hp, hpq⟩ := pw_get hl.1 hl.2 hq
  exact (ha.2 j p v hp hv).weaken hpq⟩
theorem Ct.args {g : Nat} {ps qs : List PV} {rs : List RV} (h : Ct P g qs rs) (hl : PVsLe ps qs) : Ct P g ps rs := CtP.args h hl

/-- How calls are answered, and values told with less. -/
structure Orc where
  cal : Nat → List PV → Option (List RV)
  wk : AV → AV
structure Orc.Ok (P : Program) (q : Orc) : Prop where
  cal : ∀ g ps rs, q.cal g ps = some rs → Ct P g ps rs
  wk : ∀ x, AvLe x (q.wk x)

def pureA (q : Orc) (g : Nat) (args : List AV) (k : Nat) (σ : Store) : Option Eff := match mapR (resolve σ deep) args with
  | some (ps, ks) => match q.cal g ps with
    | some rs => callE k σ ks rs
    | none => none
  | none => none
def effA (q : Orc) (k : Nat) (σ : Store) : Prep → Option Eff
  | .eff e => some e
  | .call g args => pureA q g args k σ
/-- What an operation of a region does, in a state. -/
def opA (P : Program) (q : Orc) (all : List Oper) (o : Oper) (s : St) : Option Eff := match wantedA all s.env o with
  | some false => some ⟨.pv (.tuple []), [], []⟩
  | some true => match prep P (evE s.env) s.sto (keyOf s.clk o.dst) o with
    | some p => match effA q (keyOf s.clk o.dst) s.sto p with
      | some e => some ⟨q.wk e.val, e.mem, e.reads⟩
      | none => none
    | none => none
  | none => none
theorem lk_applyMem {m : List (Nat × Blk)} : ∀ {σ : Store} {k : Nat}, k ∉ keysOf m → lk (applyMem σ m) k = lk σ k := by
  induction m with
  | nil => intro σ k _; rfl
  | cons x r ih =>
    obtain ⟨j, b⟩ := x
    intro σ k h
    simp only [keysOf, List.map_cons, List.mem_cons, not_or] at h
    simp only [applyMem]
    rw [ih (by exact h.2), lk_ins, if_neg (Ne.symm h.1)]

theorem ins_applyMem {m : List (Nat × Blk)} {k : Nat} {x : Blk} : ∀ {σ : Store}, k ∉ keysOf m → applyMem (ins k x σ) m = ins k x (applyMem σ m) := by
  induction m with
  | nil => intro σ _; rfl
  | cons y r ih =>
    obtain ⟨j, b⟩ := y
    intro σ h
    simp only [keysOf, List.map_cons, List.mem_cons, not_or] at h
    simp only [applyMem]
    rw [ins_comm (Ne.symm h.1), ih (by exact h.2)]

theorem applyMem_comm {a b : List (Nat × Blk)} (h : ∀ k ∈ keysOf b, k ∉ keysOf a) : ∀ σ : Store, applyMem (applyMem σ a) b = applyMem (applyMem σ b) a := by
  induction b with
  | nil => intro σ; rfl
  | cons x r ih =>
    obtain ⟨j, y⟩ := x
    intro σ
    simp only [applyMem]
    rw [← ins_applyMem (h j (by simp [keysOf])), ih (fun k hk => h k (by simp only [keysOf, List.map_cons, List.mem_cons] at hk ⊢; exact .inr hk))]

theorem giveBack_congr' : ∀ (rs : List RV) (k : Nat) {σ σ' : Store}, (∀ j ∈ keysFrom k rs.length, lk σ' j = lk σ j) → giveBack k σ' rs = giveBack k σ rs
  | [], k, σ, σ', _ => rfl
  | .pv p :: r, k, σ, σ', h => by simp only [giveBack, giveBack_congr' r (k + 1) (σ := σ) (σ' := σ') (fun j hj => h j (by simp only [List.length_cons, keysFrom]; exact List.mem_cons_of_mem _ hj))]
  | .fresh e s es :: r, k, σ, σ', h => by
    simp only [giveBack, giveBack_congr' r (k + 1) (σ := σ) (σ' := σ') (fun j hj => h j (by simp only [List.length_cons, keysFrom]; exact List.mem_cons_of_mem _ hj)), h k (by simp [keysFrom])]

theorem callE_det {k : Nat} {ks : List Nat} {rs : List RV} {e : Eff} (h : callE k σ ks rs = some e) (hl : Agree σ σ' e.reads) : callE k σ' ks rs = some e := by
  unfold callE at h ⊢
  split at h
  · rename_i xs m hg
    cases h
    rw [giveBack_congr' rs k (fun j hj => hl j (List.mem_append_left _ hj)), hg]
    simp only
    rw [freezeE_det ks hl.right]
  · cases h
theorem callE_reads {k : Nat} {ks : List Nat} {rs : List RV} {e : Eff} (h : callE k σ ks rs = some e) : ∀ j ∈ ks, j ∈ e.reads := by
  unfold callE at h
  split at h
  · cases h; exact fun j hj => List.mem_append_right _ hj
  · cases h

theorem pureA_det {q : Orc} {g k : Nat} {args : List AV} {e : Eff} (h : pureA q g args k σ = some e) (hl : Agree σ σ' e.reads) : pureA q g args k σ' = some e := by
  unfold pureA at h ⊢
  split at h
  · rename_i ps ks hm
    split at h
    · rename_i rs hc
      have hr := callE_reads h
      rw [mapR_det (g := resolve σ' deep) hm fun x p l h1 h2 => resolve_det _ h1 fun j hj => hl j (hr j (h2 j hj))]
      simp only [hc]
      exact callE_det h hl
    · cases h
  · cases h

theorem effA_det {q : Orc} {ev : Operand → AV} {k : Nat} {o : Oper} {p : Prep} {e : Eff} (hp : prep P ev σ k o = some p) (h : effA q k σ p = some e) (hl : Agree σ σ' e.reads) :
    prep P ev σ' k o = some p ∧ effA q k σ' p = some e := by
  cases p with
  | eff e' => simp only [effA, Option.some.injEq] at h; subst h; exact ⟨prep_det hp hl, rfl⟩
  | call g args => exact ⟨prep_det_call hp, pureA_det h hl⟩

/-- An operation in a state that is alike where it looks. -/
theorem opA_det {q : Orc} {all : List Oper} {o : Oper} {s s' : St} {e : Eff} (h : opA P q all o s = some e) (hw : wantedA all s'.env o = wantedA all s.env o)
    (hev : ∀ x ∈ o.op.operands, evE s'.env x = evE s.env x) (hl : Agree s.sto s'.sto e.reads) (hc : s'.clk = s.clk) : opA P q all o s' = some e := by
  unfold opA at h ⊢
  rw [hw]
  split at h
  · exact h
  · split at h
    · rename_i p hp
      split at h
      · rename_i e0 he0
        cases h
        obtain ⟨h1, h2⟩ := effA_det hp he0 hl
        rw [hc, prep_congr hev, h1]
        simp only [h2]
      · cases h
    · cases h
  · cases h

def Compat (a b : Eff) : Prop := (∀ k ∈ keysOf b.mem, k ∉ a.reads ∧ k ∉ keysOf a.mem) ∧ ∀ k ∈ keysOf a.mem, k ∉ b.reads

theorem wantedA_put {all : List Oper} {env env' : Env} {dst : Option Nat} {nt : Nat} {x : AV} {o : Oper} (hp : putE dst nt x env = some env') (h : ∀ d, dst = some d → d ∉ o.looksAt all.toArray) : wantedA all env' o = wantedA all env o := by
  unfold wantedA
  cases hg : o.guard with
  | none => rfl
  | some jw =>
    obtain ⟨j, want⟩ := jw
    simp only
    cases hj : all[j]? with
    | none => rfl
    | some g =>
      simp only
      cases ht : g.dst with
      | none => rfl
      | some t =>
        simp only
        have : lk env' t = lk env t := by
          unfold putE at hp
          split at hp
          · cases hp; rfl
          · rename_i d
            split at hp
            · cases hp
              rw [lk_ins]
              rw [if_neg]
              intro e
              subst e
              exact h d rfl (by simp [Oper.looksAt, hg, hj, ht])
            · cases hp
        rw [this]

theorem evE_looks {all : List Oper} {env env' : Env} {dst : Option Nat} {nt : Nat} {x : AV} {o : Oper} (hp : putE dst nt x env = some env') (h : ∀ d, dst = some d → d ∉ o.looksAt all.toArray) : ∀ y ∈ o.op.operands, evE env' y = evE env y := fun y hy =>
  evE_put hp fun d hd e => h d hd (by
    subst e
    exact List.mem_append_left _ (List.mem_filterMap.2 ⟨.tmp d, by simpa using hy, rfl⟩))

theorem app_parts {o : Oper} {e : Eff} {s s' : St} (h : app o e s = some s') : ∃ env, putE o.dst s.nt e.val s.env = some env ∧ s' = { s with env, sto := applyMem s.sto e.mem } := by
  unfold app at h
  split at h
  · rename_i env hp; cases h; exact ⟨env, hp, rfl⟩
  · cases h

theorem swap {qi qj : Orc} {all : List Oper} {oi oj : Oper} {ei ej : Eff} {s s1 s2 : St} (hap : oi.apart all.toArray oj = true) (hc : Compat ei ej) (hi : opA P qi all oi s = some ei) (h1 : app oi ei s = some s1)
    (hj : opA P qj all oj s1 = some ej) (h2 : app oj ej s1 = some s2) : ∃ s1', opA P qj all oj s = some ej ∧ app oj ej s = some s1' ∧ opA P qi all oi s1' = some ei ∧ app oi ei s1' = some s2 := by
  obtain ⟨a1, a2, a3⟩ := Oper.apart_spec hap
  obtain ⟨env1, p1, rfl⟩ := app_parts h1
  obtain ⟨env2, p2, rfl⟩ := app_parts h2
  simp only at p2 hj
  -- oj ahead
  have w1 : wantedA all s.env oj = wantedA all env1 oj := (wantedA_put p1 a1).symm
  have v1 : ∀ y ∈ oj.op.operands, evE s.env y = evE env1 y := fun y hy => (evE_looks p1 a1 y hy).symm
  have hj' : opA P qj all oj s = some ej := opA_det hj w1 v1 (fun k hk => (lk_applyMem (fun hm => hc.2 k hm hk)).symm) rfl
  obtain ⟨env3, p3⟩ : ∃ env3, putE oj.dst s.nt ej.val s.env = some env3 := by
    cases hd : oj.dst with
    | none => exact ⟨s.env, rfl⟩
    | some d =>
      rw [hd] at p2
      simp only [putE] at p2 ⊢
      split at p2
      · rename_i h; rw [if_pos h]; exact ⟨_, rfl⟩
      · cases p2
  have hi' : opA P qi all oi { s with env := env3, sto := applyMem s.sto ej.mem } = some ei :=
    opA_det hi (wantedA_put p3 a3) (evE_looks p3 a3) (fun k hk => lk_applyMem (fun hm => (hc.1 k hm).1 hk)) rfl
  refine ⟨_, hj', by unfold app; rw [p3], hi', ?_⟩
  unfold app
  simp only
  have pe : putE oi.dst s.nt ei.val env3 = some env2 := by
    cases hdi : oi.dst with
    | none =>
      rw [hdi] at p1
      simp only [putE, Option.some.injEq] at p1
      subst p1
      rw [p2] at p3
      exact p3.symm
    | some d =>
      rw [hdi] at p1
      simp only [putE] at p1 ⊢
      split at p1
      · rename_i hd
        simp only [Option.some.injEq] at p1
        subst p1
        rw [if_pos hd]
        cases hdj : oj.dst with
        | none =>
          rw [hdj] at p2 p3
          simp only [putE, Option.some.injEq] at p2 p3
          subst p2; subst p3; rfl
        | some d' =>
          rw [hdj] at p2 p3
          simp only [putE] at p2 p3
          split at p2
          · rename_i hd'
            rw [if_pos hd'] at p3
            simp only [Option.some.injEq] at p2 p3
            subst p2; subst p3
            rw [ins_comm]
            intro e
            exact a2 d hdi (by rw [hdj, e])
          · cases p2
      · cases p1
  rw [pe]
  simp only [Option.some.injEq, St.mk.injEq, and_true, true_and]
  exact (applyMem_comm (fun k hk => (hc.1 k hk).2) s.sto).symm

/-- Whatever order is picked from here on. -/
def AAny (P : Program) (all : List Oper) (es : Nat → Option (Eff × Orc)) (Q : St → Prop) : Nat → Array Bool → St → Prop
  | 0, listed, s => Region.ready .any all.toArray listed = [] ∧ Q s
  | fuel + 1, listed, s => (Region.ready .any all.toArray listed = [] → Q s) ∧
    ∀ i ∈ Region.ready .any all.toArray listed, ∃ o e q s', all[i]? = some o ∧ es i = some (e, q) ∧ opA P q all o s = some e ∧ app o e s = some s' ∧ AAny P all es Q fuel (listed.setIfInBounds i true) s'

theorem AAny_first {all : List Oper} {es : Nat → Option (Eff × Orc)} {Q : St → Prop} {i : Nat} {oi : Oper} {ei : Eff} {qi : Orc} (hi : all[i]? = some oi) (hei : es i = some (ei, qi)) :
    ∀ (fuel : Nat) (listed : Array Bool) (s s1 : St),
      (∀ j oj ej qj, all[j]? = some oj → es j = some (ej, qj) → j ≠ i → listed.getD j true = false → (∀ e ∈ oj.after, Region.binds .any e = true → e.on ≠ i) → oi.apart all.toArray oj = true ∧ Compat ei ej) →
      i ∈ Region.ready .any all.toArray listed → opA P qi all oi s = some ei → app oi ei s = some s1 → AAny P all es Q fuel (listed.setIfInBounds i true) s1 → AAny P all es Q (fuel + 1) listed s := by
  intro fuel
  induction fuel with
  | zero =>
    intro listed s s1 _ hr hy h1 H
    refine ⟨fun h => (by rw [h] at hr; cases hr), fun j hj => ?_⟩
    by_cases hji : j = i
    · subst hji; exact ⟨oi, ei, qi, s1, hi, hei, hy, h1, H⟩
    · have := ready_mono hj hji
      rw [H.1] at this
      cases this
  | succ fuel ih =>
    intro listed s s1 hfree hr hy h1 H
    refine ⟨fun h => (by rw [h] at hr; cases hr), fun j hj => ?_⟩
    by_cases hji : j = i
    · subst hji; exact ⟨oi, ei, qi, s1, hi, hei, hy, h1, H⟩
    · obtain ⟨oj, ej, qj, s2, hoj, hej, hyj, h2, H2⟩ := H.2 j (ready_mono hj hji)
      obtain ⟨hjun, oj', hoj', hall⟩ := mem_ready.1 hj
      have e : oj' = oj := by
        have : all[j]? = some oj' := by simpa using hoj'
        rw [hoj] at this
        exact (Option.some.inj this).symm
      subst e
      have hnot : ∀ e ∈ oj'.after, Region.binds .any e = true → e.on ≠ i := fun e he hb heq => by
        have h1 := hall e he hb
        have h0 := (mem_ready.1 hr).1
        rw [heq] at h1
        rcases Nat.lt_or_ge i listed.size with h' | h'
        · simp [h'] at h0 h1; rw [h0] at h1; cases h1
        · simp [Array.getElem?_eq_none h'] at h1
      obtain ⟨hap, hco⟩ := hfree j oj' ej qj hoj hej hji hjun hnot
      obtain ⟨s1', k1, k2, k3, k4⟩ := swap hap hco hy h1 hyj h2
      refine ⟨oj', ej, qj, s1', hoj, hej, k1, k2, ih (listed.setIfInBounds j true) s1' s2 ?_ (ready_mono hr (Ne.symm hji)) k3 k4 ?_⟩
      · intro k ok ek qk hk hek hki hun hno
        refine hfree k ok ek qk hk hek hki ?_ hno
        by_cases hjk : j = k
        · subst hjk; exact hjun
        · rw [getD_set_ne true hjk] at hun; exact hun
      · rw [Array.setIfInBounds_comm _ _ hji]
        exact H2

/-- One run through, in the order of the text. -/
inductive Exec (P : Program) (all : List Oper) : List Oper → List (Eff × Orc) → St → St → Prop
  | nil {s : St} : Exec P all [] [] s s
  | cons {o : Oper} {e : Eff} {q : Orc} {rest : List Oper} {es : List (Eff × Orc)} {s s1 t : St} (h : opA P q all o s = some e) (h1 : app o e s = some s1) (hr : Exec P all rest es s1 t) : Exec P all (o :: rest) ((e, q) :: es) s t

theorem AAny_lex {all : List Oper} {es : List (Eff × Orc)} {Q : St → Prop}
    (hok : ∀ i j oj ei qi ej qj, i < j → all[j]? = some oj → es[i]? = some (ei, qi) → es[j]? = some (ej, qj) → (∀ e ∈ oj.after, Region.binds .any e = true → e.on ≠ i) → Compat ei ej) :
    ∀ (l : List Oper) (fs : List (Eff × Orc)) (k : Nat) (listed : Array Bool) (s t : St), (∀ j, l[j]? = all[k + j]?) → (∀ j, fs[j]? = es[k + j]?) → (∀ j, j < k → listed.getD j true = true) →
      Region.lexFrom .any all.toArray l.length k listed = true → Exec P all l fs s t → Q t → AAny P all (fun i => es[i]?) Q l.length listed s
  | [], fs, k, listed, s, t, _, _, _, hB, hx, hQ => by cases hx; exact ⟨by simpa [Region.lexFrom] using hB, hQ⟩
  | o :: l, fs, k, listed, s, t, hl, hf, hlist, hB, hx, hQ => by
    cases hx with
    | @cons _ e q _ fs' _ s1 _ h h1 hr =>
      have h0 : all[k]? = some o := by simpa using (hl 0).symm
      have hf0 : es[k]? = some (e, q) := by simpa using (hf 0).symm
      simp only [List.length_cons, Region.lexFrom, Bool.and_eq_true] at hB
      obtain ⟨⟨hrd, hfr⟩, hB'⟩ := hB
      have hfree := Region.free_spec (md := .any) (ops := all.toArray) (by simpa using h0) hfr
      refine AAny_first h0 hf0 l.length listed s s1 (fun j oj ej qj hj hej hji hun hno => ⟨hfree j oj (by simpa using hj) hji hun hno, ?_⟩) (by simpa using hrd) h h1 ?_
      · have hkj : k < j := by
          rcases Nat.lt_or_gt_of_ne hji with h | h
          · have := hlist j h; rw [this] at hun; cases hun
          · exact h
        exact hok k j oj e q ej qj hkj hj hf0 hej hno
      · refine AAny_lex hok l fs' (k + 1) _ s1 t (fun j => by have := hl (j + 1); simpa [Nat.add_assoc, Nat.add_comm 1 j] using this) (fun j => by have := hf (j + 1); simpa [Nat.add_assoc, Nat.add_comm 1 j] using this) (fun j hj => ?_) hB' hr hQ
        by_cases hjk : j = k
        · subst hjk
          by_cases hs : j < listed.size
          · simp [Array.getD, hs]
          · simp [Array.getD, hs]
        · rw [getD_set_ne true (Ne.symm hjk)]; exact hlist j (by omega)
end Go.Mir
