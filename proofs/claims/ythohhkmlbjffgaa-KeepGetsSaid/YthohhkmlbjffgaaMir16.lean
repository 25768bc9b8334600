/- The small machine tells the truth of Go's: what it gives, a call gives (condition: what stands in E is the program's). -/
import Derived.Test.YthohhkmlbjffgaaMir15
namespace Go.Mir
open Go Go.RowKit
variable {P : Program} {μ μ' : Nat → Option KS} {S S' : Nat → Prop} {w w' : World} {σ σ' : Store}

structure MEnv.Ok (E : MEnv) : Prop where
  fn : ∀ f g, E.fn f = some g → E.P.funcs[f]? = some g ∧ (g.name == "runtime.NumGoroutine") = false ∧ ∀ c, g.body = some c → okCode c = true
  mixed : E.P.follows .mixedOrders = true

/-- The rest of a loop. -/
def inLoopWp (P : Program) (c : Code) (Q : Exit → Act → World → Prop) (a : Act) (w : World) : Prop :=
  ∀ (b : Frame) (k : List Item) (cs : List Frame), ∃ e a' w', Q e a' w' ∧ Arrives P (lone (b.at a (.inLoop c :: k)) cs w) b k cs e a' w'

theorem loop_of_round {c : Code} {Q : Exit → Act → World → Prop} {a : Act} (h : c.wp P (Exit.then (inLoopWp P c Q) Q) a w) :
    ∀ (b : Frame) (k : List Item) (cs : List Frame), ∃ e a' w', Q e a' w' ∧ Arrives P (lone (b.at a (.code c :: .inLoop c :: k)) cs w) b k cs e a' w' := by
  intro b k cs
  obtain ⟨e, a₁, w₁, hq, harr⟩ := h b (.inLoop c :: k) cs
  cases e with
  | normal =>
    obtain ⟨e₂, a₂, w₂, hq₂, harr₂⟩ := hq b k cs
    exact ⟨e₂, a₂, w₂, hq₂, .of_steps harr harr₂⟩
  | exit id => exact ⟨_, a₁, w₁, hq, .pass (x := .inLoop c) rfl (fun _ _ => .inl (by simp)) harr⟩
  | goto l => exact ⟨_, a₁, w₁, hq, .pass (x := .inLoop c) rfl (fun _ _ => .inl (by simp)) harr⟩
  | ret => exact ⟨_, a₁, w₁, hq, .pass (x := .inLoop c) rfl (fun _ _ => .inl (by simp)) harr⟩
  | panic ch => exact ⟨_, a₁, w₁, hq, .pass (x := .inLoop c) rfl (fun _ _ => .inl (by simp)) harr⟩
  | outgrown => exact ⟨_, a₁, w₁, hq, .pass (x := .inLoop c) rfl (fun _ _ => .inl (by simp)) harr⟩

theorem wp_loop_round {c : Code} {Q : Exit → Act → World → Prop} {a : Act} (h : c.wp P (Exit.then (inLoopWp P c Q) Q) a w) : (Code.loop c).wp P Q a w := fun b k cs => by
  obtain ⟨e, a', w', hq, harr⟩ := loop_of_round h b k cs
  exact ⟨e, a', w', hq, .of_steps (.one step_loop) harr⟩
theorem inLoop_round {c : Code} {Q : Exit → Act → World → Prop} {a : Act} (h : c.wp P (Exit.then (inLoopWp P c Q) Q) a w) : inLoopWp P c Q a w := fun b k cs => by
  obtain ⟨e, a', w', hq, harr⟩ := loop_of_round h b k cs
  exact ⟨e, a', w', hq, .of_steps (.one step_inLoop) harr⟩

/-- What is asked behind what is left to do. -/
def WPx (P : Program) (Q : Act → World → Prop) : List It → Exit → Act → World → Prop
  | [], .normal, a, w => Q a w
  | [], .ret, a, w => Q a w
  | [], _, _, _ => False
  | .code c :: k, .normal, a, w => c.wp P (WPx P Q k) a w
  | .blk _ :: k, .normal, a, w => WPx P Q k .normal a w
  | .blk id :: k, .exit id', a, w => if id' = id then WPx P Q k .normal a w else WPx P Q k (.exit id') a w
  | .loop c _ :: k, .normal, a, w => inLoopWp P c (WPx P Q k) a w
  | .ops all rest false _ :: k, .normal, a, w => wpList P all.toArray (WPx P Q k) rest a w
  | .ops _ _ true _ :: _, .normal, _, _ => True
  | _ :: k, e, a, w => WPx P Q k e a w

theorem WPx_ret {Q : Act → World → Prop} {a : Act} (h : Q a w) : ∀ k : List It, WPx P Q k .ret a w
  | [] => h
  | .code _ :: k => WPx_ret h k
  | .blk _ :: k => WPx_ret h k
  | .loop _ _ :: k => WPx_ret h k
  | .ops _ _ dr _ :: k => by cases dr <;> exact WPx_ret h k

theorem WPx_exit {Q : Act → World → Prop} {a : Act} {id : Nat} : ∀ {k k' : List It}, exitA id k = some k' → WPx P Q k' .normal a w → WPx P Q k (.exit id) a w
  | [], k', h, _ => by cases h
  | .blk id' :: k, k', h, hq => by
    simp only [exitA] at h
    split at h
    · rename_i e; cases h; simp only [WPx]; rw [if_pos e.symm]; exact hq
    · rename_i e; simp only [WPx]; rw [if_neg (fun h => e h.symm)]; exact WPx_exit h hq
  | .code _ :: k, k', h, hq => WPx_exit (k := k) h hq
  | .loop _ _ :: k, k', h, hq => WPx_exit (k := k) h hq
  | .ops _ _ dr _ :: k, k', h, hq => by cases dr <;> exact WPx_exit (k := k) h hq

theorem wpList_mono {ops : Array Oper} {Q Q' : Exit → Act → World → Prop} (hq : ∀ e a w, Q e a w → Q' e a w) : ∀ (l : List Oper) (a : Act) (w : World), wpList P ops Q l a w → wpList P ops Q' l a w
  | [], a, w, h => hq _ _ _ h
  | o :: l, a, w, h => by
    unfold wpList at h ⊢
    split
    · rename_i hw
      rw [if_pos hw] at h
      rcases h with h | ⟨h, a0, w0, h2⟩
      · left
        unfold Oper.wp at *
        generalize (execOp a.eval o).run P w = r at *
        cases r with
        | ok n w' =>
          cases n <;> simp only [Oper.upon] at h ⊢ <;>
            first
              | exact wpList_mono hq l _ _ h
              | exact Rows.mono h (fun _ _ he => wpList_mono hq l _ _ he)
              | exact Calls.mono h (fun e w'' he => by cases e <;> first | exact wpList_mono hq l _ _ he | exact hq _ _ _ he | (obtain ⟨a1, w1, h1⟩ := he; exact ⟨a1, w1, hq _ _ _ h1⟩))
              | exact h
        | halt x w' => cases x <;> simp only [Oper.upon] at h ⊢ <;> first | exact hq _ _ _ h | exact h
      · exact .inr ⟨h, a0, w0, hq _ _ _ h2⟩
    · rename_i hw; rw [if_neg hw] at h; exact wpList_mono hq l _ _ h

theorem WPx_mono {Q Q' : Act → World → Prop} (h : ∀ a w, Q a w → Q' a w) : ∀ (k : List It) (e : Exit) (a : Act) (w : World), WPx P Q k e a w → WPx P Q' k e a w
  | [], e, a, w, hx => by cases e <;> first | exact h _ _ hx | exact hx
  | .code c :: k, e, a, w, hx => by cases e <;> first | exact wp_mono hx (WPx_mono h k) | exact WPx_mono h k _ a w hx
  | .blk id :: k, e, a, w, hx => by
    cases e with
    | exit id' =>
      simp only [WPx] at hx ⊢
      split at hx
      · rename_i e; rw [if_pos e]; exact WPx_mono h k _ a w hx
      · rename_i e; rw [if_neg e]; exact WPx_mono h k _ a w hx
    | _ => exact WPx_mono h k _ a w hx
  | .loop c _ :: k, e, a, w, hx => by
    cases e with
    | normal => exact fun b kk cs => let ⟨e, a', w', q, r⟩ := hx b kk cs; ⟨e, a', w', WPx_mono h k _ _ _ q, r⟩
    | _ => exact WPx_mono h k _ a w hx
  | .ops all rest false _ :: k, e, a, w, hx => by cases e <;> first | exact wpList_mono (WPx_mono h k) rest a w hx | exact WPx_mono h k _ a w hx
  | .ops all rest true _ :: k, e, a, w, hx => by cases e <;> first | trivial | exact WPx_mono h k _ a w hx

def okIt : It → Prop
  | .code c => okCode c = true
  | .loop c _ => okCode c = true
  | _ => True

def Fin (B : Nat) (μ : Nat → Option KS) (S : Nat → Prop) (w : World) (r : St) (a' : Act) (w' : World) : Prop :=
  ∃ μ' S', a'.defers = [] ∧ StoRep μ' S' w' r.sto ∧ EnvRep μ' S' w' r.env a'.tmps ∧ ExtB B μ S w μ' S' w'

def RunOk (E : MEnv) (n : Nat) : Prop := ∀ (B f : Nat) (k : List It) (s r : St), runN E n f k s = some r → (∀ x ∈ k, okIt x) → B ≤ s.clk * 65536 → (∀ c c0, It.loop c c0 ∈ k → B ≤ c0 * 65536) →
  ∀ (μ : Nat → Option KS) (S : Nat → Prop) (w : World) (a : Act), a.tmps.size = s.nt → a.defers = [] → StoRep μ S w s.sto → EnvRep μ S w s.env a.tmps → WPx E.P (Fin B μ S w r) k .normal a w

/-! ### Calls -/
def resVal (vs : List Value) : Value := if h : vs.toArray.size = 1 then vs.toArray[0] else .tuple vs.toArray

theorem single_rep {xs : List AV} {vs : List Value} (h : PW (RepA μ S w) xs vs) : RepA μ S w (single xs) (resVal vs) := by
  unfold resVal
  match xs, vs, h with
  | [x], [v], h => simpa [single] using h.2 0 x v rfl rfl
  | [_], [], h => exact absurd h.1 (by simp)
  | [_], _ :: _ :: _, h => exact absurd h.1 (by simp)
  | [], [], h => exact mkTuple_rep h.1 h.2
  | [], _ :: _, h => exact absurd h.1 (by simp)
  | _ :: _ :: _, [], h => exact absurd h.1 (by simp)
  | _ :: _ :: _, [_], h => exact absurd h.1 (by simp)
  | x :: y :: r, v :: u :: t, h => rw [dif_neg (by simp)]; exact mkTuple_rep h.1 h.2

def CallPost (B : Nat) (μ : Nat → Option KS) (S : Nat → Prop) (w : World) (rs : List RV) (σ' : Store) (e : Ending) (w' : World) : Prop :=
  ∃ μ' S' vs bs, e = .returned (resVal vs) ∧ StoRep μ' S' w' σ' ∧ ExtB B μ S w μ' S' w' ∧ RVs S' w' rs vs bs ∧ ∀ b ∈ bs, ¬ S' b ∧ (∀ k, ¬ owns (μ' k) b) ∧ ((∃ j, owns (μ j) b) ∨ w.heap.size ≤ b) ∧ b < w'.heap.size

theorem callR_ok {E : MEnv} (hE : E.Ok) {n : Nat} (ih : RunOk E n) {g clk : Nat} {args : List AV} {vs : List Value} {rs : List RV} (h : callR E (runN E n) g args σ clk = some (rs, σ')) (hσ : StoRep μ S w σ) (ha : PW (RepA μ S w) args vs) :
    Calls E.P g vs.toArray w (CallPost (clk * 65536) μ S w rs σ') ∧ (callFunc g vs.toArray).run E.P w = .ok (.enter g vs.toArray) w := by
  unfold callR at h
  split at h
  · rename_i fn hfn
    obtain ⟨h1, h2, h3⟩ := hE.fn g fn hfn
    split at h
    · rename_i c hc
      split at h
      · rename_i hn
        split at h
        · rename_i t ht
          split at h
          · rename_i xs hxs
            have h2' : ¬ fn.name = "runtime.NumGoroutine" := by simpa using h2
            refine ⟨calls_of_wp h1 hc ?_, by simp [callFunc, h1, h2', hc]⟩
            have hw := ih (clk * 65536) g [.code c] _ t ht (fun x hx => by simp at hx; subst hx; exact h3 c hc) (Nat.le_refl _) (fun c' c0 hm => by simp at hm) μ S w { tmps := vs.toArray ++ Array.replicate (fn.ntmps - vs.toArray.size) undef, defers := [] } (by
              have := ha.1
              simp; omega) rfl hσ (EnvRep.enter ha)
            refine wp_mono hw fun e a' w' hq => ?_
            have fin : Fin (clk * 65536) μ S w t a' w' → ∃ v, (results fn a'.tmps).run E.P w' = .ok v w' ∧ a'.defers = [] ∧ CallPost (clk * 65536) μ S w rs σ' (.returned v) w' := by
              rintro ⟨μ1, S1, hd, hs1, he1, hx1⟩
              obtain ⟨us, hr, hp⟩ := results_ok (P := E.P) (fn := fn) hs1 he1 hxs
              obtain ⟨μ2, S2, bs, g1, g2, g3, g4⟩ := finRV_ok hs1 hp h
              refine ⟨_, hr, hd, μ2, S2, us, bs, rfl, g1, hx1.trans (g2.toB _), g3, fun b hb => ?_⟩
              obtain ⟨q1, q2, ⟨j, q3⟩, q4⟩ := g4 b hb
              exact ⟨q1, q2, hx1.own' j b q3, q4⟩
            cases e with
            | normal => obtain ⟨v, f1, f2, f3⟩ := fin hq; exact ⟨f2, v, f1, f3⟩
            | ret => obtain ⟨v, f1, f2, f3⟩ := fin hq; exact ⟨f2, v, f1, f3⟩
            | exit id => exact hq.elim
            | goto l => exact hq.elim
            | panic ch => exact hq.elim
            | outgrown => exact hq.elim
          · cases h
        · cases h
      · cases h
    · cases h
  · cases h

theorem rvs_scalar {rs : List RV} {vs : List Value} {bs : List Nat} (hr : RVs S' w' rs vs bs) (h : rs.all RV.scalar = true) : RVs S w' rs vs bs := by
  have sc : ∀ {p : PV} {v : Value}, p.scalar = true → Rep S' w' p v → Rep S w' p v := by
    intro p v hp hr
    cases p <;> first | (simp [PV.scalar] at hp; done) | skip
    cases hr with | lit hf => exact .lit hf
  induction hr with
  | nil => exact .nil
  | pv hp _ ih =>
    simp only [List.all_cons, Bool.and_eq_true] at h
    exact .pv (sc h.1 hp) (ih h.2)
  | none _ ih =>
    simp only [List.all_cons, Bool.and_eq_true] at h
    exact .none (ih h.2)
  | @fresh e s b es v rs vs bs hf hb _ ih =>
    simp only [List.all_cons, Bool.and_eq_true] at h
    obtain ⟨cap, cur, g1, g2, g3, g4, g5, g6, g7⟩ := hf
    refine .fresh ⟨cap, cur, g1, g2, g3, g4, g5, g6, fun i p hp => ⟨(g7 i p hp).1, fun j q u hq hu => sc ?_ ((g7 i p hp).2 j q u hq hu)⟩⟩ hb (ih h.2)
    have hps : p.scalar = true := List.all_eq_true.1 (show es.all PV.scalar = true from h.1) p (List.mem_of_getElem? hp)
    cases p <;> first | (simp [PV.scalar] at hps; done) | skip
    cases j with
    | zero => simp [PV.cells] at hq; subst hq; rfl
    | succ j => simp [PV.cells] at hq

theorem rvs_mono {rs : List RV} {vs : List Value} {bs : List Nat} (hr : RVs S w rs vs bs) (hS : ∀ b, S b → S' b) : RVs S' w rs vs bs := by
  induction hr with
  | nil => exact .nil
  | pv hp _ ih => exact .pv (hp.mono hS (fun _ _ => rfl)) ih
  | none _ ih => exact .none ih
  | fresh hf hb _ ih => exact .fresh (hf.mono hS (fun _ _ => rfl) rfl) hb ih

/-- A call whose arguments stand. -/
theorem pureE_ok {E : MEnv} (hE : E.Ok) {n : Nat} (ih : RunOk E n) {g k : Nat} {args : List AV} {vs : List Value} {e : Eff} (h : pureE E (runN E n) g args k σ = some e) (hσ : StoRep μ S w σ) (ha : PW (RepA μ S w) args vs) :
    Calls E.P g vs.toArray w (fun e' w' => ∃ v μ' S', e' = .returned v ∧ RepA μ' S' w' e.val v ∧ StoRep μ' S' w' (applyMem σ e.mem) ∧ Ext μ S w μ' S' w') ∧ (callFunc g vs.toArray).run E.P w = .ok (.enter g vs.toArray) w := by
  unfold pureE at h
  split at h
  · rename_i ps ks hm
    split at h
    · rename_i rs τ hc
      obtain ⟨hlen, hmr⟩ := mapR_spec hm
      have ha' : PW (RepA (fun _ => none) (frozenBy μ S ks) w) (ps.map .pv) vs := by
        refine ⟨by simpa [← hlen] using ha.1, fun j x v hx hv => ?_⟩
        rw [List.getElem?_map, Option.map_eq_some_iff] at hx
        obtain ⟨p, hp, rfl⟩ := hx
        have hj : j < args.length := by rw [hlen]; exact (List.getElem?_eq_some_iff.1 hp).1
        have hy := List.getElem?_eq_getElem hj
        obtain ⟨l, h1, h2⟩ := hmr j _ p hy hp
        exact .pv (resolve_sound hσ (fun b hb => .inl hb) deep _ v p l (ha.2 j _ v hy hv) h1 fun k' hk b hb => .inr ⟨k', h2 k' hk, hb⟩)
      have hσ0 : StoRep (fun _ => none) (frozenBy μ S ks) w [] := ⟨fun k b h => by simp [lk] at h, fun _ _ => rfl, fun _ _ _ h => h.elim, fun _ _ h => h.elim, fun b hb => by
        rcases hb with hb | ⟨k', _, hb⟩
        · exact hσ.slt b hb
        · exact hσ.lt k' b hb⟩
      obtain ⟨hcalls, hrun⟩ := callR_ok hE ih hc hσ0 ha'
      refine ⟨hcalls.mono fun e' w' hp => ?_, hrun⟩
      obtain ⟨μ1, S1, us, bs, rfl, g1, g2, g3, g4⟩ := hp
      have old : ∀ b, b < w.heap.size → w'.heap[b]? = w.heap[b]? := fun b hb => g2.frame b hb (fun _ h => h)
      have hbs : ∀ b ∈ bs, w.heap.size ≤ b := fun b hb => by
        obtain ⟨_, _, q3, _⟩ := g4 b hb
        rcases q3 with ⟨j, q3⟩ | q3
        · exact q3.elim
        · exact q3
      unfold callE at h
      split at h
      · rename_i xs m hg
        cases h
        by_cases hsc : rs.all RV.scalar = true
        · -- nothing of memory is told
          rw [if_pos hsc]
          have hσ' : StoRep μ S w' σ := ⟨fun k b hb => (hσ.blk k b hb).mono (KeysOk.refl μ) (fun _ h => h) (fun b hb => old b (hσ.slt b hb)) rfl (fun b hb => ⟨Iff.rfl, old b (hσ.lt k b hb)⟩), hσ.dom, hσ.inj, fun k b hb => Nat.lt_of_lt_of_le (hσ.lt k b hb) g2.size, fun b hb => Nat.lt_of_lt_of_le (hσ.slt b hb) g2.size⟩
          obtain ⟨μ2, k1, k2, k3, k4⟩ := giveBack_ok hσ' (rvs_scalar (S := S) g3 hsc) (fun b hb => ⟨fun h => by have := hσ.slt b h; have := hbs b hb; omega, fun j hj => by have := hσ.lt j b hj; have := hbs b hb; omega⟩) hg
          refine ⟨_, μ2, S, rfl, single_rep k2, by simpa using k1, ⟨k3, fun _ h => h, fun b hb => old b (hσ.slt b hb), fun b hb _ => old b hb, fun j b hj => ?_, fun _ h => .inl h, g2.size, g2.os, g2.tape, g2.output⟩⟩
          rcases k4 j b hj with h | h
          · exact .inl ⟨j, h⟩
          · exact .inr (hbs b h)
        · rw [if_neg hsc]
          obtain ⟨f1, f2⟩ := freeze_ok hσ ks
          have hS1 : ∀ b, b < w.heap.size → (S1 b ↔ frozenBy μ S ks b) := fun b hb => ⟨fun h => by
            rcases g2.st' b h with h | ⟨j, h⟩ | h
            · exact h
            · exact h.elim
            · omega, g2.st b⟩
          have hσ' : StoRep μ S1 w' (applyMem σ (freezeE σ ks)) := ⟨fun k b hb => (f1.blk k b hb).mono (KeysOk.refl μ) g2.st (fun b hb => old b (f1.slt b hb)) rfl (fun b hb => ⟨hS1 b (hσ.lt k b hb), old b (hσ.lt k b hb)⟩), f1.dom, f1.inj, fun k b hb => Nat.lt_of_lt_of_le (hσ.lt k b hb) g2.size, g1.slt⟩
          have hg' : giveBack k (applyMem σ (freezeE σ ks)) rs = some (xs, m) := by
            rw [← hg]
            refine giveBack_congr rs k _ _ fun j _ => ?_
            rw [lk_applyMem_freeze]
            split
            · cases lk σ j <;> simp
            · rfl
          obtain ⟨μ2, k1, k2, k3, k4⟩ := giveBack_ok hσ' g3 (fun b hb => ⟨(g4 b hb).1, fun j hj => by have := hσ.lt j b hj; have := hbs b hb; omega⟩) hg'
          refine ⟨_, μ2, S1, rfl, single_rep k2, by rw [applyMem_append]; exact k1, ⟨k3, fun b h => g2.st b (.inl h), fun b hb => old b (hσ.slt b hb), fun b hb _ => old b hb, fun j b hj => ?_, fun b h => ?_, g2.size, g2.os, g2.tape, g2.output⟩⟩
          · rcases k4 j b hj with h | h
            · exact .inl ⟨j, h⟩
            · exact .inr (hbs b h)
          · rcases g2.st' b h with (h | ⟨j, _, h⟩) | ⟨j, h⟩ | h
            · exact .inl h
            · exact .inr (.inl ⟨j, h⟩)
            · exact h.elim
            · exact .inr (.inr h)
      · cases h
    · cases h
  · cases h

theorem prep_call {ev : Operand → AV} {a : Act} (hev : ∀ x, RepA μ S w (ev x) (a.eval x)) {k : Nat} {o : Oper} {g : Nat} {args : List AV} (h : prep P ev σ k o = some (.call g args)) :
    ∃ vs : List Value, PW (RepA μ S w) args vs ∧ (execOp a.eval o).run P w = (callFunc g vs.toArray).run P w := by
  have no : ∀ {m : Option Eff}, effO m = some (.call g args) → False := fun h => effO_call h
  unfold prep at h
  split at h
  all_goals first
    | exact (no h).elim
    | skip
  all_goals try ((repeat' split at h) <;> first | exact (no h).elim | (cases h; done))
  rename_i c hop
  split at h
  · exact (no h).elim
  · rename_i f hf
    have hx := hev f
    have p0 := argsRep hev c.args.toList
    split at h
    · rename_i g' as cs he
      cases h
      rw [he] at hx
      obtain ⟨vs, us, e, p1, p2⟩ := repA_fnp hx
      refine ⟨vs ++ c.args.toList.map a.eval ++ us, (p1.append p0).append p2, ?_⟩
      have : Go.resolve a.eval c o.type = pure { target := .fn (.func g) us.toArray, args := vs.toArray ++ c.args.map a.eval } := by
        unfold Go.resolve; rw [hf]; simp [Deferred.ofValue, e]
      simp only [execOp, hop, this]
      have e2 : (vs ++ c.args.toList.map a.eval ++ us).toArray = vs.toArray ++ c.args.map a.eval ++ us.toArray := by simp
      rw [e2]; rfl
    · rename_i g' as cs he
      cases h
      rw [he] at hx
      obtain ⟨vs, us, e, p1, p2⟩ := repA_fn hx
      refine ⟨vs ++ c.args.toList.map a.eval ++ us, (p1.append p0).append p2, ?_⟩
      have : Go.resolve a.eval c o.type = pure { target := .fn (.func g) us.toArray, args := vs.toArray ++ c.args.map a.eval } := by
        unfold Go.resolve; rw [hf]; simp [Deferred.ofValue, e]
      simp only [execOp, hop, this]
      have e2 : (vs ++ c.args.toList.map a.eval ++ us).toArray = vs.toArray ++ c.args.map a.eval ++ us.toArray := by simp
      rw [e2]; rfl
    · cases h
  · cases h

/-- One operation of a region. -/
theorem op_ok {E : MEnv} (hE : E.Ok) {n : Nat} (ih : RunOk E n) {all : List Oper} {o : Oper} {s : St} {e : Eff} {a : Act} (h : opEff E (runN E n) all o s = some e) (hσ : StoRep μ S w s.sto) (he : EnvRep μ S w s.env a.tmps)
    {K : Act → World → Prop} {Q : Exit → Act → World → Prop} (hK : ∀ v μ' S' w', RepA μ' S' w' e.val v → StoRep μ' S' w' (applyMem s.sto e.mem) → Ext μ S w μ' S' w' → K (a.put o.dst v) w') :
    if Region.wanted o (yielded all.toArray a.tmps) then o.wp E.P a w K Q else K (a.put o.dst undef) w := by
  unfold opEff at h
  split at h
  · rename_i hw
    cases h
    rw [wantedA_ok he hw]
    exact hK undef μ S w undef_rep hσ (Ext.refl _ _ _)
  · rename_i hw
    rw [wantedA_ok he hw, if_pos rfl]
    split at h
    · rename_i p hp
      cases p with
      | eff e' =>
        simp only [effOf, Option.some.injEq] at h
        subst h
        obtain ⟨v, μ', S', w', h1, h2, h3, h4⟩ := prep_eff hσ he.ev hp
        unfold Oper.wp
        rcases h1 with h1 | ⟨h1, rfl⟩
        · rw [h1]; exact hK v μ' S' w' h2 h3 h4
        · rw [h1]; exact hK undef μ' S' w' h2 h3 h4
      | call g args =>
        simp only [effOf] at h
        split at h
        · cases h
        · obtain ⟨vs, p1, p2⟩ := prep_call he.ev hp
          obtain ⟨q1, q2⟩ := pureE_ok hE ih h hσ p1
          unfold Oper.wp
          rw [p2, q2, Oper.upon_enter]
          refine q1.mono fun e' w' hh => ?_
          obtain ⟨v, μ', S', rfl, k1, k2, k3⟩ := hh
          exact hK v μ' S' w' k1 k2 k3
    · cases h
  · cases h
end Go.Mir
