/- The machine with answers: it goes by reduction alone, and notes what its answers rest on (definitions and their soundness; no condition). -/
import Derived.Test.YthohhkmlbjffgaaMir22
namespace Go.Mir
open Go Go.RowKit

/-- An answer: val: the value is that one; eff: what the operation does; call: what the call gives. -/
inductive Q where
  | val (x : AV)
  | eff (e : Eff)
  | call (rs : List RV)

/-- What an operation does, where it hangs on lengths and the like. -/
def rawE (P : Program) (ev : Operand → AV) (σ : Store) (k : Nat) (o : Oper) : Option (Option Eff) := match o.op with
  | .indexAddr t x ix => some (indexAddrE P t (ev x) (ev ix) σ)
  | .index t x ix => some (indexE P t (ev x) (ev ix))
  | .lookup t x ix ok => some (lookupE P t (ev x) (ev ix) ok σ)
  | .convert s d x => some (convE P s d (ev x) σ)
  | .load t a => some (loadE P t σ (ev a))
  | .store t a x => some (storeE P t σ (ev a) (ev x))
  | .makeSlice t l c => some (makeSliceE P t (ev l) (ev c) k σ)
  | .slice t x lo hi mx => match P.underlying t with
    | some (.slice e) => match sz P e with
      | some n => some (sliceE n σ (ev x) (lo.map ev) (hi.map ev) (mx.map ev))
      | none => none
    | _ => none
  | .call c => match c.callee with
    | .builtin b => some (builtinE P b c.argTypes o.type (c.args.toList.map ev) k σ)
    | _ => none
  | _ => none
theorem prep_raw {P : Program} {ev : Operand → AV} {σ : Store} {k : Nat} {o : Oper} {x : Option Eff} (h : rawE P ev σ k o = some x) : prep P ev σ k o = effO x := by
  unfold rawE at h
  unfold prep
  split at h
  all_goals (try (rename_i e; rw [e]))
  all_goals (first | (cases h; rfl) | skip)
  · split at h
    · rename_i e1
      split at h
      · rename_i e2; simp only [e1, e2]; cases h; rfl
      · cases h
    · cases h
  · split at h
    · rename_i e1; simp only [e1]; cases h; rfl
    · cases h
  · cases h

/-- What it does, with the answer, and what that rests on. -/
noncomputable def effQ (E : MEnv) (q : Option Q) (ev : Operand → AV) (σ : Store) (k : Nat) (o : Oper) : Option (Eff × List Prop) := match q with
  | some (.eff e) => match rawE E.P ev σ k o with
    | some x => some (e, [x = some e])
    | none => none
  | some (.val x) => match prep E.P ev σ k o with
    | some (.eff e) => some ({ e with val := x }, [e.val = x])
    | _ => none
  | some (.call rs) => match prep E.P ev σ k o with
    | some (.call g args) => if E.wild g then none else match mapR (resolve σ deep) args with
      | some (ps, ks) => match callE k σ ks rs with
        | some e => some (e, [call E g ps = some rs])
        | none => none
      | none => none
    | _ => none
  | none => match prep E.P ev σ k o with
    | some (.eff e) => some (e, [])
    | _ => none

def Holds (ps : List Prop) : Prop := ∀ p ∈ ps, p
theorem Holds.one {p : Prop} (h : Holds [p]) : p := h p (List.mem_singleton.2 rfl)

theorem effQ_ok {E : MEnv} {q : Option Q} {ev : Operand → AV} {σ : Store} {k : Nat} {o : Oper} {e : Eff} {ps : List Prop} (h : effQ E q ev σ k o = some (e, ps)) (hp : Holds ps) :
    ∃ p, prep E.P ev σ k o = some p ∧ isWild E p = none ∧ effC E k σ p = some e := by
  unfold effQ at h
  split at h
  · split at h
    · rename_i x hx
      simp only [Option.some.injEq, Prod.mk.injEq] at h
      obtain ⟨rfl, rfl⟩ := h
      have := hp.one
      subst this
      exact ⟨.eff _, prep_raw hx, rfl, rfl⟩
    · cases h
  · split at h
    · rename_i e' he'
      simp only [Option.some.injEq, Prod.mk.injEq] at h
      obtain ⟨rfl, rfl⟩ := h
      have := hp.one
      subst this
      exact ⟨.eff e', he', rfl, rfl⟩
    · cases h
  · split at h
    · rename_i g args he'
      split at h
      · cases h
      · rename_i hw
        split at h
        · rename_i qs ks hm
          split at h
          · rename_i e' hc
            simp only [Option.some.injEq, Prod.mk.injEq] at h
            obtain ⟨rfl, rfl⟩ := h
            have := hp.one
            refine ⟨.call g args, he', ?_, ?_⟩
            · simp only [isWild]; rw [if_neg hw]
            · simp only [effC, hm, this]; exact hc
          · cases h
        · cases h
    · cases h
  · split at h
    · rename_i e' he'
      simp only [Option.some.injEq, Prod.mk.injEq] at h
      obtain ⟨rfl, rfl⟩ := h
      exact ⟨.eff e', he', rfl, rfl⟩
    · cases h

/-- One step, with answers. i: which operation it is. -/
noncomputable def runQ (E : MEnv) : Nat → List (Nat × Q) → Nat → Nat → List It → St → Option (St × List It × List Prop)
  | 0, _, _, _, _, _ => none
  | n + 1, ans, i, f, k, s => match k with
    | [] => some (s, [], [])
    | .code c :: k' => match c with
      | .skip => runQ E n ans i f k' s
      | .label _ => runQ E n ans i f k' s
      | .ret => some (s, [], [])
      | .seq a b => runQ E n ans i f (.code a :: .code b :: k') s
      | .cond c a b => match evE s.env c with
        | .pv (.lit (.bool true)) => runQ E n ans i f (.code a :: k') s
        | .pv (.lit (.bool false)) => runQ E n ans i f (.code b :: k') s
        | _ => none
      | .block id c => runQ E n ans i f (.code c :: .blk id :: k') s
      | .exit id => match exitA id k' with
        | some k'' => runQ E n ans i f k'' s
        | none => none
      | .region _ ops dr => runQ E n ans i f (.ops ops.toList ops.toList dr [] :: k') ⟨s.env, s.sto, s.clk + 1, s.nt⟩
      | .loop c => some (s, .code (.loop c) :: k', [])
      | _ => none
    | .blk _ :: k' => runQ E n ans i f k' s
    | .loop c c0 :: k' => some (s, .loop c c0 :: k', [])
    | .ops _ [] _ _ :: k' => runQ E n ans i f k' s
    | .ops all (o :: rest) dr acc :: k' => match wantedA all s.env o with
      | some false => match putE o.dst s.nt (.pv (.tuple [])) s.env with
        | some env => runQ E n ans (i + 1) f (.ops all rest dr (acc ++ [([], [])]) :: k') ⟨env, s.sto, s.clk, s.nt⟩
        | none => none
      | some true => match effQ E (lk ans i) (evE s.env) s.sto (keyOf s.clk o.dst) o with
        | some (e, ps) => match putE o.dst s.nt e.val s.env with
          | some env => match okD dr o e.reads (keysOf e.mem) 0 acc with
            | true => match runQ E n ans (i + 1) f (.ops all rest dr (acc ++ [(e.reads, keysOf e.mem)]) :: k') ⟨env, applyMem s.sto e.mem, s.clk, s.nt⟩ with
              | some (s', k'', qs) => some (s', k'', ps ++ qs)
              | none => none
            | false => none
          | none => none
        | none => none
      | none => none

theorem runQ_ok {E : MEnv} : ∀ (n : Nat) {ans : List (Nat × Q)} {i f : Nat} {k k' : List It} {s s' : St} {ps : List Prop}, runQ E n ans i f k s = some (s', k', ps) → Holds ps → run E f k s = run E f k' s'
  | 0, _, _, _, _, _, _, _, _, h, _ => by cases h
  | n + 1, ans, i, f, k, k', s, s', ps, h, hp => by
    have ih := @runQ_ok E n
    cases k with
    | nil =>
      simp only [runQ, Option.some.injEq, Prod.mk.injEq] at h
      obtain ⟨rfl, rfl, rfl⟩ := h
      rfl
    | cons x k =>
      cases x with
      | code c =>
        cases c with
        | skip => rw [run_skip]; exact ih h hp
        | label l => rw [run_label]; exact ih h hp
        | ret =>
          simp only [runQ, Option.some.injEq, Prod.mk.injEq] at h
          obtain ⟨rfl, rfl, rfl⟩ := h
          rw [run_ret, run_nil]
        | seq a b => rw [run_seq]; exact ih h hp
        | cond c a b =>
          rw [run_cond]
          simp only [runQ] at h
          split at h
          · rename_i e; simp only [e, if_true]; exact ih h hp
          · rename_i e; simp only [e, Bool.false_eq_true, if_false]; exact ih h hp
          · cases h
        | block id c => rw [run_block]; exact ih h hp
        | exit id =>
          rw [run_exit]
          simp only [runQ] at h
          split at h
          · rename_i e; simp only [e]; exact ih h hp
          · cases h
        | region id ops dr => rw [run_region]; exact ih h hp
        | loop c =>
          simp only [runQ, Option.some.injEq, Prod.mk.injEq] at h
          obtain ⟨rfl, rfl, rfl⟩ := h
          rfl
        | rangeFunc a b c d => cases h
        | scope c => cases h
        | goto l => cases h
        | refuse w => cases h
      | blk id => rw [run_blk]; exact ih h hp
      | loop c c0 =>
        simp only [runQ, Option.some.injEq, Prod.mk.injEq] at h
        obtain ⟨rfl, rfl, rfl⟩ := h
        rfl
      | ops all rest dr acc =>
        cases rest with
        | nil => rw [run_ops_nil]; exact ih h hp
        | cons o rest =>
          rw [run_op]
          simp only [runQ] at h
          split at h
          · rename_i hw
            split at h
            · rename_i env he
              simp only [stepO, hw, he]
              exact ih h hp
            · cases h
          · rename_i hw
            split at h
            · rename_i e qs hq
              split at h
              · rename_i env he
                split at h
                · rename_i hok
                  split at h
                  · rename_i s1 k1 rs hr
                    simp only [Option.some.injEq, Prod.mk.injEq] at h
                    obtain ⟨rfl, rfl, rfl⟩ := h
                    obtain ⟨p, h1, h2, h3⟩ := effQ_ok hq (fun p hm => hp p (List.mem_append_left _ hm))
                    simp only [stepO, hw, h1, h2, h3, he, hok, if_true]
                    exact ih hr (fun p hm => hp p (List.mem_append_right _ hm))
                  · cases h
                · cases h
              · cases h
            · cases h
          · cases h
end Go.Mir
