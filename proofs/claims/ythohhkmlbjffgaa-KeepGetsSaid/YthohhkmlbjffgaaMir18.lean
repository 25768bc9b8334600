/- Without fuel: the small machine as far as it goes, and its equations (lemmas; no condition). -/
import Derived.Test.YthohhkmlbjffgaaMir17
namespace Go.Mir
open Go Go.RowKit

/-! ### More fuel gives no less -/
def Leq (f g : Nat → List It → St → Option St) : Prop := ∀ i k s r, f i k s = some r → g i k s = some r

theorem callR_mono {E : MEnv} {f g : Nat → List It → St → Option St} (h : Leq f g) {i : Nat} {args : List AV} {σ : Store} {clk : Nat} {x : List RV × Store} (hx : callR E f i args σ clk = some x) : callR E g i args σ clk = some x := by
  unfold callR at hx ⊢
  split at hx
  · rename_i fn hfn
    split at hx
    · rename_i c hc
      split at hx
      · rename_i hn
        split at hx
        · rename_i t ht
          rw [if_pos hn, h _ _ _ _ ht]
          exact hx
        · cases hx
      · cases hx
    · cases hx
  · cases hx

theorem pureE_mono {E : MEnv} {f g : Nat → List It → St → Option St} (h : Leq f g) {i k : Nat} {args : List AV} {σ : Store} {e : Eff} (hx : pureE E f i args k σ = some e) : pureE E g i args k σ = some e := by
  unfold pureE at hx ⊢
  split at hx
  · rename_i ps ks hm
    split at hx
    · rename_i rs τ hc
      rw [callR_mono h hc]
      exact hx
    · cases hx
  · cases hx

theorem effOf_mono {E : MEnv} {f g : Nat → List It → St → Option St} (h : Leq f g) {k : Nat} {σ : Store} {p : Prep} {e : Eff} (hx : effOf E f k σ p = some e) : effOf E g k σ p = some e := by
  cases p with
  | eff e' => exact hx
  | call i args =>
    simp only [effOf] at hx ⊢
    split at hx
    · cases hx
    · rename_i hw; rw [if_neg hw]; exact pureE_mono h hx

theorem wildS_mono {E : MEnv} {f g : Nat → List It → St → Option St} (h : Leq f g) {i : Nat} {args : List AV} {dst : Option Nat} {s s' : St} (hx : wildS E f i args dst s = some s') : wildS E g i args dst s = some s' := by
  unfold wildS at hx ⊢
  split at hx
  · rename_i hk
    rw [if_pos hk]
    split at hx
    · rename_i rs σ hc
      rw [callR_mono h hc]
      exact hx
    · cases hx
  · cases hx

/-- One step, the rest left to 'run'. -/
def stepF (E : MEnv) (run : Nat → List It → St → Option St) (f : Nat) : List It → St → Option St
  | [], s => some s
  | .code c :: k, s => match c with
    | .skip => run f k s
    | .label _ => run f k s
    | .ret => some s
    | .seq a b => run f (.code a :: .code b :: k) s
    | .cond c a b => match evE s.env c with
      | .pv (.lit (.bool t)) => if t then run f (.code a :: k) s else run f (.code b :: k) s
      | _ => none
    | .block id c => run f (.code c :: .blk id :: k) s
    | .exit id => match exitA id k with
      | some k' => run f k' s
      | none => none
    | .loop c => run f (.code c :: .loop c (s.clk + 1) :: k) (norm E f c (s.clk + 1) s)
    | .region _ ops dr => run f (.ops ops.toList ops.toList dr [] :: k) { s with clk := s.clk + 1 }
    | _ => none
  | .blk _ :: k, s => run f k s
  | .loop c c0 :: k, s => run f (.code c :: .loop c c0 :: k) (norm E f c c0 s)
  | .ops _ [] _ _ :: k, s => run f k s
  | .ops all (o :: rest) dr acc :: k, s => match wantedA all s.env o with
    | some false => match putE o.dst s.nt (.pv (.tuple [])) s.env with
      | some env => run f (.ops all rest dr (acc ++ [([], [])]) :: k) { s with env }
      | none => none
    | some true => match prep E.P (evE s.env) s.sto (keyOf s.clk o.dst) o with
      | some p => match isWild E p with
        | some (g, args) => if dr then none else match wildS E run g args o.dst s with
          | some s' => run f (.ops all rest dr acc :: k) s'
          | none => none
        | none => match effOf E run (keyOf s.clk o.dst) s.sto p with
          | some e => match putE o.dst s.nt e.val s.env with
            | some env => if okD dr o e.reads (keysOf e.mem) 0 acc then
                run f (.ops all rest dr (acc ++ [(e.reads, keysOf e.mem)]) :: k) { s with env, sto := applyMem s.sto e.mem }
              else none
            | none => none
          | none => none
      | none => none
    | none => none

theorem runN_succ (E : MEnv) (n f : Nat) (k : List It) (s : St) : runN E (n + 1) f k s = stepF E (runN E n) f k s := by
  cases k with
  | nil => rfl
  | cons x k =>
    cases x with
    | code c => cases c <;> rfl
    | blk id => rfl
    | loop c c0 => rfl
    | ops all rest dr acc => cases rest <;> rfl

theorem stepF_mono {E : MEnv} {g h : Nat → List It → St → Option St} (hl : Leq g h) {f : Nat} {k : List It} {s r : St} (hx : stepF E g f k s = some r) : stepF E h f k s = some r := by
  cases k with
  | nil => exact hx
  | cons x k =>
    cases x with
    | code c =>
      cases c with
      | cond c a b =>
        simp only [stepF] at hx ⊢
        split at hx
        · rename_i t ht
          split at hx
          · rename_i e; subst e; exact hl _ _ _ _ hx
          · rename_i e; have e' : t = false := by simpa using e
            subst e'; exact hl _ _ _ _ hx
        · cases hx
      | exit id =>
        simp only [stepF] at hx ⊢
        split at hx
        · exact hl _ _ _ _ hx
        · cases hx
      | skip => exact hl _ _ _ _ hx
      | label l => exact hl _ _ _ _ hx
      | ret => exact hx
      | seq a b => exact hl _ _ _ _ hx
      | block id c => exact hl _ _ _ _ hx
      | loop c => exact hl _ _ _ _ hx
      | region id ops dr => exact hl _ _ _ _ hx
      | rangeFunc a b c d => cases hx
      | scope c => cases hx
      | goto l => cases hx
      | refuse w => cases hx
    | blk id => exact hl _ _ _ _ hx
    | loop c c0 => exact hl _ _ _ _ hx
    | ops all rest dr acc =>
      cases rest with
      | nil => exact hl _ _ _ _ hx
      | cons o rest =>
        simp only [stepF] at hx ⊢
        split at hx
        · split at hx
          · exact hl _ _ _ _ hx
          · cases hx
        · split at hx
          · rename_i p hp
            split at hx
            · rename_i g args hw
              split at hx
              · cases hx
              · rename_i hdr
                rw [if_neg hdr]
                split at hx
                · rename_i s' hs'
                  rw [wildS_mono hl hs']
                  exact hl _ _ _ _ hx
                · cases hx
            · rename_i hw
              split at hx
              · rename_i e he
                rw [effOf_mono hl he]
                simp only
                split at hx
                · rename_i env hp
                  split at hx
                  · rename_i hok
                    rw [if_pos hok]
                    exact hl _ _ _ _ hx
                  · cases hx
                · cases hx
              · cases hx
          · cases hx
        · cases hx

theorem runN_mono (E : MEnv) : ∀ n, Leq (runN E n) (runN E (n + 1))
  | 0 => fun _ _ _ _ h => by cases h
  | n + 1 => fun i k s r h => by
    rw [runN_succ] at h ⊢
    exact stepF_mono (runN_mono E n) h
theorem runN_le (E : MEnv) {n m : Nat} (h : n ≤ m) : Leq (runN E n) (runN E m) := by
  induction h with
  | refl => exact fun _ _ _ _ h => h
  | step _ ih => exact fun i k s r h => runN_mono E _ i k s r (ih i k s r h)

/-- As far as it goes. -/
noncomputable def run (E : MEnv) (f : Nat) (k : List It) (s : St) : Option St :=
  open Classical in if h : ∃ r, ∃ n, runN E n f k s = some r then some h.choose else none

theorem run_some {E : MEnv} {f : Nat} {k : List It} {s r : St} : run E f k s = some r ↔ ∃ n, runN E n f k s = some r := by
  unfold run
  constructor
  · intro h
    split at h
    · rename_i hx; cases h; exact hx.choose_spec
    · cases h
  · rintro ⟨n, hn⟩
    have hx : ∃ r, ∃ n, runN E n f k s = some r := ⟨r, n, hn⟩
    rw [dif_pos hx]
    obtain ⟨m, hm⟩ := hx.choose_spec
    have h1 := runN_le E (Nat.le_max_left n m) _ _ _ _ hn
    have h2 := runN_le E (Nat.le_max_right n m) _ _ _ _ hm
    rw [h1] at h2
    exact h2.symm

theorem runN_run (E : MEnv) (n : Nat) : Leq (runN E n) (run E) := fun _ _ _ _ h => run_some.2 ⟨n, h⟩

theorem callR_run {E : MEnv} {i : Nat} {args : List AV} {σ : Store} {clk : Nat} {x : List RV × Store} (h : callR E (run E) i args σ clk = some x) : ∃ n, callR E (runN E n) i args σ clk = some x := by
  unfold callR at h
  split at h
  · rename_i fn hfn
    split at h
    · rename_i c hc
      split at h
      · rename_i hn
        split at h
        · rename_i t ht
          obtain ⟨n, hr⟩ := run_some.1 ht
          refine ⟨n, ?_⟩
          unfold callR
          simp only [hfn, hc]
          rw [if_pos hn, hr]
          exact h
        · cases h
      · cases h
    · cases h
  · cases h

theorem effOf_run {E : MEnv} {k : Nat} {σ : Store} {p : Prep} {e : Eff} (h : effOf E (run E) k σ p = some e) : ∃ n, effOf E (runN E n) k σ p = some e := by
  cases p with
  | eff e' => exact ⟨0, h⟩
  | call i args =>
    simp only [effOf] at h ⊢
    split at h
    · cases h
    · rename_i hw
      unfold pureE at h
      split at h
      · rename_i ps ks hm
        split at h
        · rename_i rs τ hc
          obtain ⟨n, hn⟩ := callR_run hc
          refine ⟨n, ?_⟩
          rw [if_neg hw]
          unfold pureE
          rw [hm]
          simp only
          rw [hn]
          exact h
        · cases h
      · cases h

theorem wildS_run {E : MEnv} {i : Nat} {args : List AV} {dst : Option Nat} {s s' : St} (h : wildS E (run E) i args dst s = some s') : ∃ n, wildS E (runN E n) i args dst s = some s' := by
  unfold wildS at h
  split at h
  · rename_i hk
    split at h
    · rename_i rs σ hc
      obtain ⟨n, hn⟩ := callR_run hc
      refine ⟨n, ?_⟩
      unfold wildS
      rw [if_pos hk, hn]
      exact h
    · cases h
  · cases h

theorem stepF_run {E : MEnv} {f : Nat} {k : List It} {s r : St} (h : stepF E (run E) f k s = some r) : ∃ n, stepF E (runN E n) f k s = some r := by
  cases k with
  | nil => exact ⟨0, h⟩
  | cons x k =>
    have tail : ∀ {k' : List It} {s' : St}, run E f k' s' = some r → ∃ n, runN E n f k' s' = some r := fun h => run_some.1 h
    cases x with
    | code c =>
      cases c with
      | cond c a b =>
        simp only [stepF] at h ⊢
        split at h
        · rename_i t ht
          split at h
          · rename_i e; subst e; exact tail h
          · rename_i e; have e' : t = false := by simpa using e
            subst e'; exact tail h
        · cases h
      | exit id =>
        simp only [stepF] at h ⊢
        split at h
        · exact tail h
        · cases h
      | skip => exact tail h
      | label l => exact tail h
      | ret => exact ⟨0, h⟩
      | seq a b => exact tail h
      | block id c => exact tail h
      | loop c => exact tail h
      | region id ops dr => exact tail h
      | rangeFunc a b c d => cases h
      | scope c => cases h
      | goto l => cases h
      | refuse w => cases h
    | blk id => exact tail h
    | loop c c0 => exact tail h
    | ops all rest dr acc =>
      cases rest with
      | nil => exact tail h
      | cons o rest =>
        simp only [stepF] at h
        split at h
        · rename_i hw
          split at h
          · rename_i env hp
            obtain ⟨n, hn⟩ := tail h
            refine ⟨n, ?_⟩
            simp only [stepF, hw, hp]
            exact hn
          · cases h
        · rename_i hw
          split at h
          · rename_i p hp
            split at h
            · rename_i g args hwi
              split at h
              · cases h
              · rename_i hdr
                split at h
                · rename_i s' hs'
                  obtain ⟨n, hn⟩ := tail h
                  obtain ⟨m, hm⟩ := wildS_run hs'
                  refine ⟨max n m, ?_⟩
                  simp only [stepF, hw, hp, hwi]
                  rw [if_neg hdr, wildS_mono (runN_le E (Nat.le_max_right n m)) hm]
                  exact runN_le E (Nat.le_max_left n m) _ _ _ _ hn
                · cases h
            · rename_i hwi
              split at h
              · rename_i e he
                split at h
                · rename_i env hpe
                  split at h
                  · rename_i hok
                    obtain ⟨n, hn⟩ := tail h
                    obtain ⟨m, hm⟩ := effOf_run he
                    refine ⟨max n m, ?_⟩
                    simp only [stepF, hw, hp, hwi]
                    rw [effOf_mono (runN_le E (Nat.le_max_right n m)) hm]
                    simp only [hpe]
                    rw [if_pos hok]
                    exact runN_le E (Nat.le_max_left n m) _ _ _ _ hn
                  · cases h
                · cases h
              · cases h
          · cases h
        · cases h

/-- The equation of the machine. -/
theorem run_eq (E : MEnv) (f : Nat) (k : List It) (s : St) : run E f k s = stepF E (run E) f k s := by
  have key : ∀ r, run E f k s = some r ↔ stepF E (run E) f k s = some r := by
    intro r
    constructor
    · intro h
      obtain ⟨n, hn⟩ := run_some.1 h
      cases n with
      | zero => cases hn
      | succ n => rw [runN_succ] at hn; exact stepF_mono (runN_run E n) hn
    · intro h
      obtain ⟨n, hn⟩ := stepF_run h
      exact run_some.2 ⟨n + 1, by rw [runN_succ]; exact hn⟩
  cases h1 : run E f k s with
  | some r => exact ((key r).1 h1).symm
  | none =>
    cases h2 : stepF E (run E) f k s with
    | none => rfl
    | some r => rw [(key r).2 h2] at h1; cases h1

/-! ### Equations, one a form -/
section
variable (E : MEnv) (f : Nat) (k : List It) (s : St)
theorem run_nil : run E f [] s = some s := by rw [run_eq]; rfl
theorem run_skip : run E f (.code .skip :: k) s = run E f k s := by rw [run_eq]; rfl
theorem run_label (l : Nat) : run E f (.code (.label l) :: k) s = run E f k s := by rw [run_eq]; rfl
theorem run_ret : run E f (.code .ret :: k) s = some s := by rw [run_eq]; rfl
theorem run_seq (a b : Code) : run E f (.code (.seq a b) :: k) s = run E f (.code a :: .code b :: k) s := by rw [run_eq]; rfl
theorem run_cond (c : Operand) (a b : Code) : run E f (.code (.cond c a b) :: k) s = match evE s.env c with
    | .pv (.lit (.bool t)) => if t then run E f (.code a :: k) s else run E f (.code b :: k) s
    | _ => none := by rw [run_eq]; rfl
theorem run_block (id : Nat) (c : Code) : run E f (.code (.block id c) :: k) s = run E f (.code c :: .blk id :: k) s := by rw [run_eq]; rfl
theorem run_exit (id : Nat) : run E f (.code (.exit id) :: k) s = match exitA id k with
    | some k' => run E f k' s
    | none => none := by rw [run_eq]; rfl
theorem run_loop (c : Code) : run E f (.code (.loop c) :: k) s = run E f (.code c :: .loop c (s.clk + 1) :: k) (norm E f c (s.clk + 1) s) := by rw [run_eq]; rfl
theorem run_region (id : Nat) (ops : Array Oper) (dr : Bool) : run E f (.code (.region id ops dr) :: k) s = run E f (.ops ops.toList ops.toList dr [] :: k) { s with clk := s.clk + 1 } := by rw [run_eq]; rfl
theorem run_blk (id : Nat) : run E f (.blk id :: k) s = run E f k s := by rw [run_eq]; rfl
theorem run_inloop (c : Code) (c0 : Nat) : run E f (.loop c c0 :: k) s = run E f (.code c :: .loop c c0 :: k) (norm E f c c0 s) := by rw [run_eq]; rfl
theorem run_ops_nil (all : List Oper) (dr : Bool) (acc : List (List Nat × List Nat)) : run E f (.ops all [] dr acc :: k) s = run E f k s := by rw [run_eq]; rfl
end

/-- What a call of a function gives, its arguments standing. -/
noncomputable def call (E : MEnv) (g : Nat) (ps : List PV) : Option (List RV) := (callR E (run E) g (ps.map .pv) [] 0).map (·.1)

/-- What an operation does, calls by 'call'. -/
noncomputable def effC (E : MEnv) (k : Nat) (σ : Store) : Prep → Option Eff
  | .eff e => some e
  | .call g args => match mapR (resolve σ deep) args with
    | some (ps, ks) => match call E g ps with
      | some rs => callE k σ ks rs
      | none => none
    | none => none

theorem effOf_effC {E : MEnv} {k : Nat} {σ : Store} {p : Prep} (hw : isWild E p = none) : effOf E (run E) k σ p = effC E k σ p := by
  cases p with
  | eff e => rfl
  | call g args =>
    simp only [isWild] at hw
    split at hw
    · cases hw
    · rename_i h
      simp only [effOf, effC, pureE, call]
      rw [if_neg h]
      cases mapR (resolve σ deep) args with
      | none => rfl
      | some x =>
        obtain ⟨ps, ks⟩ := x
        simp only
        cases callR E (run E) g (ps.map .pv) [] 0 with
        | none => rfl
        | some y => rfl

/-- The state behind an operation. -/
noncomputable def stepO (E : MEnv) (all : List Oper) (o : Oper) (dr : Bool) (acc : List (List Nat × List Nat)) (s : St) : Option (List (List Nat × List Nat) × St) := match wantedA all s.env o with
  | some false => match putE o.dst s.nt (.pv (.tuple [])) s.env with
    | some env => some (acc ++ [([], [])], { s with env })
    | none => none
  | some true => match prep E.P (evE s.env) s.sto (keyOf s.clk o.dst) o with
    | some p => match isWild E p with
      | some (g, args) => if dr then none else match wildS E (run E) g args o.dst s with
        | some s' => some (acc, s')
        | none => none
      | none => match effC E (keyOf s.clk o.dst) s.sto p with
        | some e => match putE o.dst s.nt e.val s.env with
          | some env => if okD dr o e.reads (keysOf e.mem) 0 acc then some (acc ++ [(e.reads, keysOf e.mem)], { s with env, sto := applyMem s.sto e.mem }) else none
          | none => none
        | none => none
    | none => none
  | none => none

theorem run_op (E : MEnv) (f : Nat) (k : List It) (s : St) (all : List Oper) (o : Oper) (rest : List Oper) (dr : Bool) (acc : List (List Nat × List Nat)) : run E f (.ops all (o :: rest) dr acc :: k) s = match stepO E all o dr acc s with
    | some (acc', s') => run E f (.ops all rest dr acc' :: k) s'
    | none => none := by
  rw [run_eq]
  simp only [stepF, stepO]
  cases wantedA all s.env o with
  | none => rfl
  | some b =>
    cases b with
    | false => simp only; cases putE o.dst s.nt (.pv (.tuple [])) s.env <;> rfl
    | true =>
      simp only
      cases prep E.P (evE s.env) s.sto (keyOf s.clk o.dst) o with
      | none => rfl
      | some p =>
        simp only
        cases hw : isWild E p with
        | some x =>
          obtain ⟨g, args⟩ := x
          simp only
          cases dr with
          | true => rfl
          | false =>
            simp only [Bool.false_eq_true, if_false]
            cases wildS E (run E) g args o.dst s <;> rfl
        | none =>
          simp only
          rw [effOf_effC hw]
          cases effC E (keyOf s.clk o.dst) s.sto p with
          | none => rfl
          | some e =>
            simp only
            cases putE o.dst s.nt e.val s.env with
            | none => rfl
            | some env => simp only; split <;> rfl

/-- The contract of a function: what the machine gives, a call gives. -/
theorem call_ok {E : MEnv} (hE : E.Ok) {g : Nat} {ps : List PV} {rs : List RV} {vs : List Value} {w : World} (h : call E g ps = some rs) (ha : PW (Rep (fun b => b < w.heap.size) w) ps vs) :
    Calls E.P g vs.toArray w fun e w' => ∃ us bs S', e = .returned (resVal us) ∧ RVs S' w' rs us bs ∧ Below w.heap.size w w' := by
  unfold call at h
  rw [Option.map_eq_some_iff] at h
  obtain ⟨⟨rs', σ'⟩, h1, rfl⟩ := h
  obtain ⟨n, hn⟩ := callR_run h1
  have hσ : StoRep (fun _ => none) (fun b => b < w.heap.size) w [] := ⟨fun k b h => by simp [lk] at h, fun _ _ => rfl, fun _ _ _ h => h.elim, fun _ _ h => h.elim, fun b hb => hb⟩
  have ha' : PW (RepA (fun _ => none) (fun b => b < w.heap.size) w) (ps.map .pv) vs := ⟨by simpa using ha.1, fun j x v hx hv => by
    rw [List.getElem?_map, Option.map_eq_some_iff] at hx
    obtain ⟨p, hp, rfl⟩ := hx
    exact .pv (ha.2 j p v hp hv)⟩
  obtain ⟨hc, _⟩ := callR_ok hE (run_ok hE n) hn hσ ha'
  refine hc.mono fun e w' hp => ?_
  obtain ⟨μ', S', us, bs, rfl, _, g2, g3, _⟩ := hp
  exact ⟨us, bs, S', rfl, g3, ⟨g2.os, g2.tape, g2.output, g2.size, fun k hk => g2.frame k hk (fun _ h => h)⟩⟩
end Go.Mir
