/- What is asked behind what is left to do; calls whose arguments stand; one operation (lemmas; conditions: what they say). -/
import Derived.Test.YthcmkipbdgndoaaGreatDoorNx16
import Derived.OrdersIn
import Derived.RangeFuncRecord
set_option linter.all false
set_option linter.unusedVariables false
set_option linter.unusedSimpArgs false
set_option linter.unnecessarySimpa false
namespace Go.Mir
open Go Go.RowKit
variable {P : Program} {μ μ' : Nat → Option KS} {S S' : Nat → Prop} {w w' : World} {σ σ' : Store}
variable [Globs P]

/-- Frames of a round, or of none. -/
noncomputable def wide (ρ : Option Nat) : Fence := { Fence.wide with round := ρ }
theorem room_wideR (ρ : Option Nat) (n : Nat) : (wide ρ).room n := fun _ h => by simp [wide, Fence.wide] at h
theorem callsIn_wideR {ρ : Option Nat} {n : Nat} {f : FuncId} {args : Array Value} {R : Ending → World → Prop} : CallsIn (wide ρ) n P f args w R ↔ Calls P f args w R := callsIn_wide

theorem plainOp_spec {o : Oper} (h : o.plainOp = true) : ∀ c, o.op ≠ .defer c := fun c e => by
  unfold Oper.plainOp at h; rw [e] at h; cases h
theorem wp_to_In {ρ : Option Nat} {o : Oper} {a : Act} {K : Act → World → Prop} {Q : Exit → Act → World → Prop} (ho : o.plainOp = true) (h : o.wp P a w K Q) : o.wpIn (wide ρ) 0 P a w K Q := by
  refine ⟨fun _ _ => trivial, ?_⟩
  rw [Oper.semAt_eq _ _ _ (plainOp_spec ho)]
  unfold Oper.wp at h
  generalize (execOp a.eval o).run P w = r at *
  have hd : (wide ρ).depth.isSome = true → 1 ≤ 0 := fun h => by simp [wide, Fence.wide] at h
  cases r with
  | ok x w' =>
    cases x <;> simp only [Oper.upon, Oper.uponIn] at h ⊢ <;>
      first
        | exact h
        | exact ⟨hd, callsIn_wideR.2 (Calls.mono h fun e w he => by cases e <;> exact he)⟩
        | exact ⟨hd, fun c cs _ => let ⟨v, w', r, s⟩ := h c cs; ⟨v, w', r, stepsIn_wide.2 s⟩⟩
        | exact h.elim
  | halt x w' => cases x <;> simp only [Oper.upon, Oper.uponIn] at h ⊢ <;> first | exact h | exact h.elim

/-- Operations, one behind the other. -/
noncomputable def wpListIn (P : Program) (ρ : Option Nat) (ops : Array Oper) (Q : Exit → Act → World → Prop) : List Oper → Act → World → Prop
  | [], a, w => Q .normal a w
  | o :: rest, a, w => if Region.wanted o (yielded ops a.tmps) then o.wpIn (wide ρ) 0 P a w (wpListIn P ρ ops Q rest) Q else wpListIn P ρ ops Q rest (a.put o.dst undef) w
theorem wpListIn_ops {ρ : Option Nat} {ops : Array Oper} {Q : Exit → Act → World → Prop} : ∀ (l : List Oper) (k : Nat), (∀ j, l[j]? = ops[k + j]?) → ∀ a w, wpListIn P ρ ops Q l a w → wpOpsIn (wide ρ) 0 P ops Q (List.range' k l.length) a w
  | [], k, _, a, w, h => h
  | o :: l, k, h, a, w, hx => by
    have h0 : ops[k]? = some o := by simpa using (h 0).symm
    have ih := wpListIn_ops l (k + 1) (fun j => by have := h (j + 1); simpa [Nat.add_assoc, Nat.add_comm 1 j] using this) (ρ := ρ) (Q := Q)
    simp only [List.length_cons, List.range'_succ, wpOpsIn, h0]
    unfold wpListIn at hx
    split
    · rename_i hw
      rw [if_pos hw] at hx
      exact Oper.wpIn_mono ih hx
    · rename_i hw
      rw [if_neg hw] at hx
      exact ⟨fun _ _ => trivial, ih _ _ hx⟩
theorem wpIn_region_listR {ρ : Option Nat} {id : Nat} {ops : Array Oper} {Q : Exit → Act → World → Prop} {a : Act} (h : wpListIn P ρ ops Q ops.toList a w) : (Code.region id ops false).wpIn (wide ρ) 0 P Q a w :=
  wpIn_region (by
    have := wpListIn_ops ops.toList 0 (fun j => by simp) a w h
    rw [List.range_eq_range', ← Array.length_toList]; exact this)
theorem Oper.wpIn_monoQ {ρ : Option Nat} {o : Oper} {a : Act} {K K' : Act → World → Prop} {Q Q' : Exit → Act → World → Prop} (hK : ∀ a w, K a w → K' a w) (hQ : ∀ e a w, Q e a w → Q' e a w) (h : o.wpIn (wide ρ) 0 P a w K Q) : o.wpIn (wide ρ) 0 P a w K' Q' := by
  refine ⟨h.1, ?_⟩
  have hh := h.2
  generalize (o.semAt (wide ρ).round a.eval).run P w = r at *
  have out : LetsOut Q → LetsOut Q' := fun ⟨a, w, h⟩ => ⟨a, w, hQ _ _ _ h⟩
  cases r with
  | ok x w' =>
    cases x <;> simp only [Oper.uponIn] at hh ⊢ <;>
      first
        | exact hK _ _ hh
        | exact ⟨hh.1, CallsIn.mono hh.2 (fun e w'' he => by cases e <;> first | exact hK _ _ he | exact hQ _ _ _ he | exact out he)⟩
        | exact ⟨hh.1, RowsIn.mono hh.2 (fun _ _ he => hK _ _ he)⟩
        | exact ⟨hh.1, RoundIn.mono hh.2 (fun e w'' he => by cases e <;> first | exact hK _ _ he | exact hQ _ _ _ he | exact out he)⟩
        | exact hh
  | halt x w' => cases x <;> simp only [Oper.uponIn] at hh ⊢ <;> first | exact hQ _ _ _ hh | exact hh
theorem wpListIn_mono {ρ : Option Nat} {ops : Array Oper} {Q Q' : Exit → Act → World → Prop} (hq : ∀ e a w, Q e a w → Q' e a w) : ∀ (l : List Oper) (a : Act) (w : World), wpListIn P ρ ops Q l a w → wpListIn P ρ ops Q' l a w
  | [], a, w, h => hq _ _ _ h
  | o :: l, a, w, h => by
    unfold wpListIn at h ⊢
    split
    · rename_i hw; rw [if_pos hw] at h; exact Oper.wpIn_monoQ (fun a w h => wpListIn_mono hq l a w h) hq h
    · rename_i hw; rw [if_neg hw] at h; exact wpListIn_mono hq l _ _ h
theorem wpAny_toIn {ρ : Option Nat} {md : Region.Mode} {ops : Array Oper} {Q : Exit → Act → World → Prop} (hout : ¬ LetsOut Q) (hp : ∀ o ∈ ops.toList, o.plainOp = true) : ∀ (fuel : Nat) (listed : Array Bool) (a : Act) (w : World), wpAny P md ops Q fuel listed a w → wpAnyIn (wide ρ) 0 P md ops Q fuel listed a w
  | 0, listed, a, w, h => h
  | fuel + 1, listed, a, w, h => by
    refine ⟨h.1, fun i hi => ?_⟩
    have := h.2 i hi
    unfold wpOp at this
    unfold wpOpIn
    split
    · rename_i hn; rw [hn] at this; exact wpAny_toIn hout hp fuel _ a w this
    · rename_i o ho
      rw [ho] at this
      simp only at this
      have hpo := hp o (by
        obtain ⟨hlt, rfl⟩ := Array.getElem?_eq_some_iff.1 ho
        simp)
      split
      · rename_i hw
        rw [if_pos hw] at this
        rcases this with this | ⟨_, a0, w0, h0⟩
        · exact Oper.wpIn_mono (fun a w h => wpAny_toIn hout hp fuel _ a w h) (wp_to_In hpo this)
        · exact absurd ⟨a0, w0, h0⟩ hout
      · rename_i hw
        rw [if_neg hw] at this
        exact ⟨fun _ _ => trivial, wpAny_toIn hout hp fuel _ _ w this⟩

/-- The rest of a loop. -/
noncomputable def inLoopWp (P : Program) (ρ : Option Nat) (c : Code) (Q : Exit → Act → World → Prop) (a : Act) (w : World) : Prop :=
  ∀ (b : Frame) (k : List Item) (cs : List Frame), b.roundOf = ρ → ∃ e a' w', Q e a' w' ∧ ArrivesIn (Machine.fenced P (wide ρ)) P (lone (b.atR a (.inLoop c :: k)) cs w) b k cs e a' w'

theorem loop_of_round {ρ : Option Nat} {c : Code} {Q : Exit → Act → World → Prop} {a : Act} (h : c.wpIn (wide ρ) 0 P (Exit.then (inLoopWp P ρ c Q) Q) a w) :
    ∀ (b : Frame) (k : List Item) (cs : List Frame), b.roundOf = ρ → ∃ e a' w', Q e a' w' ∧ ArrivesIn (Machine.fenced P (wide ρ)) P (lone (b.atR a (.code c :: .inLoop c :: k)) cs w) b k cs e a' w' := by
  intro b k cs hb
  obtain ⟨e, a₁, w₁, hq, harr⟩ := h b (.inLoop c :: k) cs hb trivial (room_wideR _ _)
  cases e with
  | normal =>
    obtain ⟨e₂, a₂, w₂, hq₂, harr₂⟩ := hq b k cs hb
    exact ⟨e₂, a₂, w₂, hq₂, .of_steps harr harr₂⟩
  | exit id => exact ⟨_, a₁, w₁, hq, .pass (x := .inLoop c) rfl (fun _ _ => .inl (by simp)) harr⟩
  | goto l => exact ⟨_, a₁, w₁, hq, .pass (x := .inLoop c) rfl (fun _ _ => .inl (by simp)) harr⟩
  | ret => exact ⟨_, a₁, w₁, hq, .pass (x := .inLoop c) rfl (fun _ _ => .inl (by simp)) harr⟩
  | panic ch => exact ⟨_, a₁, w₁, hq, .pass (x := .inLoop c) rfl (fun _ _ => .inl (by simp)) harr⟩
  | outgrown => exact ⟨_, a₁, w₁, hq, .pass (x := .inLoop c) rfl (fun _ _ => .inl (by simp)) harr⟩

theorem fencedR {ρ : Option Nat} {b : Frame} {a : Act} {todo : List Item} {cs : List Frame} (h : (b.atR a todo).about P w = none) : (lone (b.atR a todo) cs w).fenced P (wide ρ) :=
  fenced_calm (n := 0) (F := wide ρ) (fr := b.atR a todo) trivial (room_wideR _ _) h
theorem wp_loop_round {ρ : Option Nat} {c : Code} {Q : Exit → Act → World → Prop} {a : Act} (h : c.wpIn (wide ρ) 0 P (Exit.then (inLoopWp P ρ c Q) Q) a w) : (Code.loop c).wpIn (wide ρ) 0 P Q a w := fun b k cs hb _ _ => by
  obtain ⟨e, a', w', hq, harr⟩ := loop_of_round h b k cs hb
  exact ⟨e, a', w', hq, .of_steps (.one (fencedR rfl) stepR_loop) harr⟩
theorem inLoop_round {ρ : Option Nat} {c : Code} {Q : Exit → Act → World → Prop} {a : Act} (h : c.wpIn (wide ρ) 0 P (Exit.then (inLoopWp P ρ c Q) Q) a w) : inLoopWp P ρ c Q a w := fun b k cs hb => by
  obtain ⟨e, a', w', hq, harr⟩ := loop_of_round h b k cs hb
  exact ⟨e, a', w', hq, .of_steps (.one (fencedR rfl) stepR_inLoop) harr⟩
theorem stepR_scope {b : Frame} {a : Act} {k : List Item} {cs : List Frame} {c : Code} : step P (lone (b.atR a (.code (.scope c) :: k)) cs w) = .next (lone (b.atR a (.code c :: .inScope c :: k)) cs w) :=
  step_lone_go (by simp [stepG, stepG.exec, Frame.atR])
theorem stepR_inScope {b : Frame} {a : Act} {k : List Item} {cs : List Frame} {c : Code} : step P (lone (b.atR a (.inScope c :: k)) cs w) = .next (lone (b.atR a k) cs w) :=
  step_lone_go (by simp [stepG, stepG.exec, Frame.atR])

/-- What is asked behind what is left to do. -/
noncomputable def WPx (P : Program) (ρ : Option Nat) (Q : Exit → Act → World → Prop) (G : (St → Prop) → Act → World → Prop) : List It → Exit → Act → World → Prop
  | [], e, a, w => Q e a w
  | .code c :: k, .normal, a, w => c.wpIn (wide ρ) 0 P (WPx P ρ Q G k) a w
  | .blk _ :: k, .normal, a, w => WPx P ρ Q G k .normal a w
  | .blk id :: k, .exit id', a, w => if id' = id then WPx P ρ Q G k .normal a w else WPx P ρ Q G k (.exit id') a w
  | .loop c _ :: k, .normal, a, w => inLoopWp P ρ c (WPx P ρ Q G k) a w
  | .hook _ :: k, e, a, w => WPx P ρ Q G k e a w
  | .scp l h :: _, .goto l', a, w => l' = l ∧ G h a w
  | .ops all rest false _ :: k, .normal, a, w => wpListIn P ρ all.toArray (WPx P ρ Q G k) rest a w
  | .ops _ _ true _ :: _, .normal, _, _ => True
  | _ :: k, e, a, w => WPx P ρ Q G k e a w

theorem WPx_ret {ρ : Option Nat} {Q : Exit → Act → World → Prop} {G : (St → Prop) → Act → World → Prop} {a : Act} (h : Q .ret a w) : ∀ k : List It, WPx P ρ Q G k .ret a w
  | [] => h
  | .code _ :: k => WPx_ret h k
  | .blk _ :: k => WPx_ret h k
  | .loop _ _ :: k => WPx_ret h k
  | .hook _ :: k => by simp only [WPx]; exact WPx_ret h k
  | .scp _ _ :: k => WPx_ret h k
  | .ops _ _ dr _ :: k => by cases dr <;> exact WPx_ret h k

theorem WPx_exit {ρ : Option Nat} {Q : Exit → Act → World → Prop} {G : (St → Prop) → Act → World → Prop} {a : Act} {id : Nat} : ∀ {k k' : List It}, exitA id k = some k' → WPx P ρ Q G k' .normal a w → WPx P ρ Q G k (.exit id) a w
  | [], k', h, _ => by cases h
  | .blk id' :: k, k', h, hq => by
    simp only [exitA] at h
    split at h
    · rename_i e; cases h; simp only [WPx]; rw [if_pos e.symm]; exact hq
    · rename_i e; simp only [WPx]; rw [if_neg (fun h => e h.symm)]; exact WPx_exit h hq
  | .code _ :: k, k', h, hq => WPx_exit (k := k) h hq
  | .loop _ _ :: k, k', h, hq => WPx_exit (k := k) h hq
  | .hook _ :: k, k', h, hq => by simp only [WPx]; exact WPx_exit (k := k) h hq
  | .scp _ _ :: k, k', h, hq => WPx_exit (k := k) h hq
  | .ops _ _ dr _ :: k, k', h, hq => by cases dr <;> exact WPx_exit (k := k) h hq
/-- An exit that nothing catches. -/
theorem WPx_exitNone {ρ : Option Nat} {Q : Exit → Act → World → Prop} {G : (St → Prop) → Act → World → Prop} {a : Act} {id : Nat} (hq : Q (.exit id) a w) : ∀ {k : List It}, exitA id k = none → WPx P ρ Q G k (.exit id) a w
  | [], _ => hq
  | .blk id' :: k, h => by
    simp only [exitA] at h
    split at h
    · cases h
    · rename_i e; simp only [WPx]; rw [if_neg (fun h => e h.symm)]; exact WPx_exitNone hq h
  | .code _ :: k, h => WPx_exitNone hq (k := k) h
  | .loop _ _ :: k, h => WPx_exitNone hq (k := k) h
  | .hook _ :: k, h => by simp only [WPx]; exact WPx_exitNone hq (k := k) h
  | .scp _ _ :: k, h => WPx_exitNone hq (k := k) h
  | .ops _ _ dr _ :: k, h => by cases dr <;> exact WPx_exitNone hq (k := k) h
theorem WPx_goto {ρ : Option Nat} {Q : Exit → Act → World → Prop} {G : (St → Prop) → Act → World → Prop} {a : Act} {l : Nat} {g : St → Prop} : ∀ {k : List It}, gotoA l k = some g → G g a w → WPx P ρ Q G k (.goto l) a w
  | [], h, _ => by cases h
  | .scp l' h' :: k, h, hq => by
    simp only [gotoA] at h
    split at h
    · rename_i e; cases h; exact ⟨(Nat.eq_of_beq_eq_true e).symm, hq⟩
    · cases h
  | .blk _ :: k, h, hq => WPx_goto (k := k) h hq
  | .code _ :: k, h, hq => WPx_goto (k := k) h hq
  | .loop _ _ :: k, h, hq => WPx_goto (k := k) h hq
  | .hook _ :: k, h, hq => by simp only [WPx]; exact WPx_goto (k := k) h hq
  | .ops _ _ dr _ :: k, h, hq => by cases dr <;> exact WPx_goto (k := k) h hq

theorem WPx_mono {ρ : Option Nat} {Q Q' : Exit → Act → World → Prop} {G G' : (St → Prop) → Act → World → Prop} (h : ∀ e a w, Q e a w → Q' e a w) (hG : ∀ g a w, G g a w → G' g a w) : ∀ (k : List It) (e : Exit) (a : Act) (w : World), WPx P ρ Q G k e a w → WPx P ρ Q' G' k e a w
  | [], e, a, w, hx => h _ _ _ hx
  | .code c :: k, e, a, w, hx => by cases e <;> first | exact wpIn_mono hx (WPx_mono h hG k) | exact WPx_mono h hG k _ a w hx
  | .blk id :: k, e, a, w, hx => by
    cases e with
    | exit id' =>
      simp only [WPx] at hx ⊢
      split at hx
      · rename_i e; rw [if_pos e]; exact WPx_mono h hG k _ a w hx
      · rename_i e; rw [if_neg e]; exact WPx_mono h hG k _ a w hx
    | _ => exact WPx_mono h hG k _ a w hx
  | .loop c _ :: k, e, a, w, hx => by
    cases e with
    | normal => exact fun b kk cs hb => let ⟨e, a', w', q, r⟩ := hx b kk cs hb; ⟨e, a', w', WPx_mono h hG k _ _ _ q, r⟩
    | _ => exact WPx_mono h hG k _ a w hx
  | .hook _ :: k, e, a, w, hx => by simp only [WPx] at hx ⊢; exact WPx_mono h hG k _ a w hx
  | .scp l g :: k, e, a, w, hx => by
    cases e with
    | goto l' => exact ⟨hx.1, hG _ _ _ hx.2⟩
    | _ => exact WPx_mono h hG k _ a w hx
  | .ops all rest false _ :: k, e, a, w, hx => by cases e <;> first | exact wpListIn_mono (WPx_mono h hG k) rest a w hx | exact WPx_mono h hG k _ a w hx
  | .ops all rest true _ :: k, e, a, w, hx => by cases e <;> first | trivial | exact WPx_mono h hG k _ a w hx

theorem WPx_out {ρ : Option Nat} {Q : Exit → Act → World → Prop} {G : (St → Prop) → Act → World → Prop} (hQ : ∀ a w, ¬ Q .outgrown a w) : ∀ (k : List It) (a : Act) (w : World), ¬ WPx P ρ Q G k .outgrown a w
  | [], a, w, h => hQ a w h
  | .code _ :: k, a, w, h => WPx_out hQ k a w h
  | .blk _ :: k, a, w, h => WPx_out hQ k a w h
  | .loop _ _ :: k, a, w, h => WPx_out hQ k a w h
  | .hook _ :: k, a, w, h => by simp only [WPx] at h; exact WPx_out hQ k a w h
  | .scp _ _ :: k, a, w, h => WPx_out hQ k a w h
  | .ops _ _ dr _ :: k, a, w, h => by cases dr <;> exact WPx_out hQ k a w h

noncomputable def okIt : It → Prop
  | .code c => okCode c = true
  | .loop c _ => okCode c = true
  | .ops all rest _ _ => ∀ o ∈ rest, o.plainOp = true
  | _ => True

/-- What waited before; whence names are new. -/
structure Base where
  n : Nat
  ds : List Deferred
/-- Calls that wait for the end of a function: marks of ranges over functions, ahead of what waited before. -/
noncomputable def Marks (n0 : Base) (S : Nat → Prop) (w : World) (ds : List Deferred) : Prop :=
  n0.n ≤ w.heap.size ∧ ∃ ms, ds = ms ++ n0.ds ∧ (ms.map (·.target)).Nodup ∧ ∀ d ∈ ms, ∃ D, d = { target := .collected D, args := #[] } ∧ n0.n ≤ D ∧ S D ∧ w.heap[D]? = some (.deferred (some []))
theorem Marks.mono {n0 : Base} {ds : List Deferred} (h : Marks n0 S w ds) (hS : ∀ b, S b → S' b) (hm : ∀ b, S b → w'.heap[b]? = w.heap[b]?) (hz : w.heap.size ≤ w'.heap.size) : Marks n0 S' w' ds := by
  obtain ⟨h0, ms, e, h1, h2⟩ := h
  exact ⟨Nat.le_trans h0 hz, ms, e, h1, fun d hd => by
    obtain ⟨D, e, h1, h2, h3⟩ := h2 d hd
    exact ⟨D, e, h1, hS D h2, (hm D h2).trans h3⟩⟩
theorem Marks.nil {n0 : Base} (h : n0.n ≤ w.heap.size) : Marks n0 S w n0.ds := ⟨h, [], rfl, List.nodup_nil, fun d hd => by cases hd⟩

theorem Marks.cons {n0 : Base} {ds : List Deferred} (h : Marks n0 S w ds) (hS : ∀ b, S b → S' b) (hm : ∀ b, S b → w'.heap[b]? = w.heap[b]?) (hz : w.heap.size ≤ w'.heap.size) (g1 : S' w.heap.size) (g2 : w'.heap[w.heap.size]? = some (.deferred (some []))) :
    Marks n0 S' w' ([{ target := .collected w.heap.size, args := #[] }] ++ ds) := by
  have h' := h.mono hS hm hz
  obtain ⟨h0, ms, rfl, h1, h2⟩ := h
  obtain ⟨d0, ms', e, d1, d2⟩ := h'
  obtain rfl : ms = ms' := List.append_cancel_right e
  refine ⟨d0, { target := .collected w.heap.size, args := #[] } :: ms, rfl, ?_, fun d hdm => ?_⟩
  · rw [List.map_cons]
    refine List.nodup_cons.2 ⟨fun hmem => ?_, d1⟩
    obtain ⟨d, hdm, e⟩ := List.mem_map.1 hmem
    obtain ⟨D, rfl, _, _, hD⟩ := h2 d hdm
    simp only [Target.collected.injEq] at e
    have := (Array.getElem?_eq_some_iff.1 hD).1
    omega
  · rcases List.mem_cons.1 hdm with rfl | hdm
    · exact ⟨w.heap.size, rfl, h0, g1, g2⟩
    · exact d2 d hdm
noncomputable def Fin (B : List Nat) (n0 : Base) (μ : Nat → Option KS) (S : Nat → Prop) (w : World) (r : St) (a' : Act) (w' : World) : Prop :=
  ∃ μ' S', Marks n0 S' w' a'.defers ∧ StoRep μ' S' w' r.sto ∧ EnvRep μ' S' w' r.env a'.tmps ∧ a'.tmps.size = r.nt ∧ ExtB B μ S w μ' S' w'

theorem single_rep {xs : List AV} {vs : List Value} (h : PW (RepA μ S w) xs vs) : RepA μ S w (single xs) (resVal vs) := by
  unfold resVal
  match xs, vs, h with
  | [x], [v], h => simpa [single] using h.2 0 x v rfl rfl
  | [_], [], h => exact absurd h.1 (by simp)
  | [_], _ :: _ :: _, h => exact absurd h.1 (by simp)
  | [], [], h => exact mkTuple_rep h.1 h.2
  | [], _ :: _, h => exact absurd h.1 (by simp)
  | _ :: _ :: _, [], h => exact absurd h.1 (by simp)
  | _ :: _ :: _, [_], h => exact absurd h.1 (by simp)
  | x :: y :: r, v :: u :: t, h => rw [dif_neg (by simp)]; exact mkTuple_rep h.1 h.2

theorem rvs_scalar {rs : List RV} {vs : List Value} {bs : List Nat} (hr : RVs S' w' rs vs bs) (h : rs.all RV.scalar = true) : RVs S w' rs vs bs := by
  have sc : ∀ {p : PV} {v : Value}, p.scalar = true → Rep S' w' p v → Rep S w' p v := by
    intro p v hp hr
    cases p <;> first | (simp [PV.scalar] at hp; done) | skip
    cases hr with | lit hf => exact .lit hf
  induction hr with
  | nil => exact .nil
  | pv hp _ ih =>
    simp only [List.all_cons, Bool.and_eq_true] at h
    exact .pv (sc h.1 hp) (ih h.2)
  | none _ ih =>
    simp only [List.all_cons, Bool.and_eq_true] at h
    exact .none (ih h.2)
  | @fresh e s b es v rs vs bs hf hb _ ih =>
    simp [RV.scalar] at h

theorem rvs_mono {rs : List RV} {vs : List Value} {bs : List Nat} (hr : RVs S w rs vs bs) (hS : ∀ b, S b → S' b) : RVs S' w rs vs bs := by
  induction hr with
  | nil => exact .nil
  | pv hp _ ih => exact .pv (hp.mono hS (fun _ _ => rfl)) ih
  | none _ ih => exact .none ih
  | fresh hf hb _ ih => exact .fresh (hf.mono hS (fun _ _ => rfl) rfl) hb ih

theorem run_method {t : TypeId} {v : Value} {name : String} {f : Nat} {i : TypeInfo} {m : Method} {d : TypeDesc} (hi : P.info? t = some i) (hu : P.underlying t = some d) (hd : ∀ e, d ≠ .pointer e) (hm : i.methods.find? (·.name == name) = some m) (hp : m.path.toList = []) (hf : m.func = some (f, false)) (n : Nat) (w : World) :
    (method (n + 1) t v name).run P w = .ok (f, v) w := by
  have hr : ∀ wr, (receiverAt t (.val v) false wr).run P w = .ok v w := fun wr => by
    unfold receiverAt
    rw [Sem.run_bind, run_underlying hu, Result.andThen_ok]
    cases d <;> first | rfl | (exact absurd rfl (hd _))
  unfold method
  simp [typeInfo, hi, hm, hp, follow, hf, hr]
theorem prep_call {z : Bool} {ev : Operand → AV} {a : Act} (hev : ∀ x, RepA μ S w (ev x) (a.eval x)) {k : Nat} {o : Oper} {g : Nat} {args : List AV} (h : prepZ P z ev σ k o = some (.call g args)) :
    ∃ vs : List Value, PW (RepA μ S w) args vs ∧ (execOp a.eval o).run P w = (callFunc g vs.toArray).run P w := by
  have no : ∀ {m : Option Eff}, effO m = some (.call g args) → False := fun h => effO_call h
  unfold prepZ at h
  split at h
  all_goals first
    | exact (no h).elim
    | skip
  all_goals try ((repeat' split at h) <;> first | exact (no h).elim | (cases h; done))
  rename_i c hop
  split at h
  · exact (no h).elim
  · rename_i f hf
    have hx := hev f
    have p0 := argsRep hev c.args.toList
    split at h
    · rename_i g' as cs he
      cases h
      rw [he] at hx
      obtain ⟨vs, us, e, p1, p2⟩ := repA_fnp hx
      refine ⟨vs ++ c.args.toList.map a.eval ++ us, (p1.append p0).append p2, ?_⟩
      have : Go.resolve a.eval c o.type = pure { target := .fn (.func g) us.toArray, args := vs.toArray ++ c.args.map a.eval } := by
        unfold Go.resolve; rw [hf]; simp [Deferred.ofValue, e]
      simp only [execOp, hop, this]
      have e2 : (vs ++ c.args.toList.map a.eval ++ us).toArray = vs.toArray ++ c.args.map a.eval ++ us.toArray := by simp
      rw [e2]; rfl
    · rename_i g' as cs he
      cases h
      rw [he] at hx
      obtain ⟨vs, us, e, p1, p2⟩ := repA_fn hx
      refine ⟨vs ++ c.args.toList.map a.eval ++ us, (p1.append p0).append p2, ?_⟩
      have : Go.resolve a.eval c o.type = pure { target := .fn (.func g) us.toArray, args := vs.toArray ++ c.args.map a.eval } := by
        unfold Go.resolve; rw [hf]; simp [Deferred.ofValue, e]
      simp only [execOp, hop, this]
      have e2 : (vs ++ c.args.toList.map a.eval ++ us).toArray = vs.toArray ++ c.args.map a.eval ++ us.toArray := by simp
      rw [e2]; rfl
    · cases h
  · rename_i r name hcal
    have hx := hev r
    have p0 := argsRep hev c.args.toList
    split at h
    · rename_i f p hme
      cases h
      unfold methodE at hme
      split at hme
      · rename_i t q he
        rw [he] at hx
        cases hv : a.eval r with
        | iface t' v =>
          rw [hv] at hx
          cases hx with
          | pv hp =>
            cases hp with
            | iface hq =>
              split at hme
              · cases hme
              · rename_i i d hno hi hu
                split at hme
                · rename_i m hm
                  split at hme
                  · rename_i f' hpath hfn
                    cases hme
                    refine ⟨v :: c.args.toList.map a.eval, PW.cons (.pv hq) p0, ?_⟩
                    have hres : Go.resolve a.eval c o.type = pure { target := .fn (.method name) #[], args := #[a.eval r] ++ c.args.map a.eval } := by
                      unfold Go.resolve; rw [hcal]
                    simp only [execOp, hop, hres]
                    have hd : ∀ e, d ≠ .pointer e := fun e he => hno e he
                    obtain ⟨n, hn⟩ : ∃ n, P.types.size + Made.depth = n + 1 := ⟨P.types.size + (Made.depth - 1), by simp [Made.depth]⟩
                    have hmr := run_method hi hu hd hm hpath hfn n w (v := v)
                    have e2 : (v :: c.args.toList.map a.eval).toArray = #[v] ++ c.args.map a.eval := by simp
                    rw [e2]
                    have hm2 : (callMethod (.iface t v) name (c.args.map a.eval)).run P w = (callFunc g (#[v] ++ c.args.map a.eval)).run P w := by
                      unfold callMethod
                      simp [hn, hmr]
                    have hinv : invoke (.fn (.method name) #[]) (#[Value.iface t v] ++ c.args.map a.eval) = callMethod (.iface t v) name (c.args.map a.eval) := by
                      have h0 : (#[Value.iface t v] ++ c.args.map a.eval)[0]? = some (Value.iface t v) := by rw [Array.getElem?_append_left (by simp)]; rfl
                      have h1 : (#[Value.iface t v] ++ c.args.map a.eval).extract 1 (#[Value.iface t v] ++ c.args.map a.eval).size = c.args.map a.eval := by
                        apply Array.ext'
                        simp
                        rw [List.take_of_length_le (by simp)]
                      show (match (#[Value.iface t v] ++ c.args.map a.eval)[0]? with
                        | some recv => callMethod recv name ((#[Value.iface t v] ++ c.args.map a.eval).extract 1 (#[Value.iface t v] ++ c.args.map a.eval).size)
                        | _ => stuck "call: a method without a receiver") = _
                      rw [h0, h1]
                    rw [Sem.run_bind, Sem.run_pure, Result.andThen_ok, hv, hinv]
                    exact hm2
                  · cases hme
                · cases hme
              · cases hme
        | _ => rw [hv] at hx; cases hx with | pv hp => cases hp
      · cases hme
    · cases h

/-- A call whose arguments stand. -/
theorem pureA_ok {q : Orc} (hgl : GlobOk P S w) (hq : q.Ok P) {g k : Nat} {args : List AV} {vs : List Value} {e : Eff} (h : pureA q g args k σ = some e) (hσ : StoRep μ S w σ) (ha : PW (RepA μ S w) args vs) :
    Calls P g vs.toArray w (fun e' w' => ∃ v μ' S', e' = .returned v ∧ RepA μ' S' w' e.val v ∧ StoRep μ' S' w' (applyMem σ e.mem) ∧ Ext μ S w μ' S' w') ∧ (callFunc g vs.toArray).run P w = .ok (.enter g vs.toArray) w := by
  unfold pureA at h
  split at h
  · rename_i ps ks hm
    split at h
    · rename_i rs hc
      obtain ⟨hlen, hmr⟩ := mapR_spec hm
      have ha' : PW (Rep (frozenBy μ S ks) w) ps vs := by
        refine ⟨by rw [← hlen]; exact ha.1, fun j p v hp hv => ?_⟩
        have hj : j < args.length := by rw [hlen]; exact (List.getElem?_eq_some_iff.1 hp).1
        have hy := List.getElem?_eq_getElem hj
        obtain ⟨l, h1, h2⟩ := hmr j _ p hy hp
        exact resolve_sound hσ (fun b hb => .inl hb) deep _ v p l (ha.2 j _ v hy hv) h1 fun k' hk b hb => .inr ⟨k', h2 k' hk, hb⟩
      have hlt : ∀ b, frozenBy μ S ks b → b < w.heap.size := fun b hb => by
        rcases hb with hb | ⟨k', _, hb⟩
        · exact hσ.slt b hb
        · exact hσ.lt k' b hb
      obtain ⟨hcalls, hrun⟩ := hq.cal g ps rs hc (frozenBy μ S ks) w vs hlt (hgl.mono (fun _ h => .inl h) (fun _ _ => rfl)) ha'
      refine ⟨hcalls.mono fun e' w' hp => ?_, hrun⟩
      obtain ⟨S1, rs0, us, bs0, hle, rfl, g3, g2, g4⟩ := hp
      obtain ⟨bs, hsub, hwk⟩ := rvs_weaken hle g3
      have old : ∀ b, b < w.heap.size → w'.heap[b]? = w.heap[b]? := g2.mem
      have hbs : ∀ b ∈ bs, w.heap.size ≤ b := fun b hb => (g4 b (hsub b hb)).2.1
      unfold callE at h
      split at h
      · rename_i xs m hg
        cases h
        by_cases hsc : rs.all RV.scalar = true
        · -- nothing of memory is told
          rw [if_pos hsc]
          have g3' := hwk (fun b => S1 b ∨ (b ∈ bs0 ∧ b ∉ bs)) (fun _ h => .inl h) (fun b h1 h2 => .inr ⟨h1, h2⟩)
          have hσ' : StoRep μ S w' σ := ⟨fun k b hb => (hσ.blk k b hb).mono (KeysOk.refl μ) (fun _ h => h) (fun b hb => old b (hσ.slt b hb)) rfl (fun b hb => ⟨Iff.rfl, old b (hσ.lt k b hb)⟩), hσ.dom, hσ.inj, fun k b hb => Nat.lt_of_lt_of_le (hσ.lt k b hb) g2.size, fun b hb => Nat.lt_of_lt_of_le (hσ.slt b hb) g2.size⟩
          obtain ⟨μ2, k1, k2, k3, k4⟩ := giveBack_ok hσ' (rvs_scalar (S := S) g3' hsc) (fun b hb => ⟨fun h => by have := hσ.slt b h; have := hbs b hb; omega, fun j hj => by have := hσ.lt j b hj; have := hbs b hb; omega⟩) hg
          refine ⟨_, μ2, S, rfl, single_rep k2, by simpa using k1, ⟨k3, fun _ h => h, fun b hb => old b (hσ.slt b hb), fun b hb _ => old b hb, fun j b hj => ?_, fun _ h => .inl h, g2.size, g2.os, g2.tape, g2.output⟩⟩
          rcases k4 j b hj with h | h
          · exact .inl ⟨j, h⟩
          · exact .inr (hbs b h)
        · rw [if_neg hsc]
          obtain ⟨f1, f2⟩ := freeze_ok hσ ks
          let S2 : Nat → Prop := fun b => S1 b ∨ (b ∈ bs0 ∧ b ∉ bs)
          have g3' : RVs S2 w' rs us bs := hwk S2 (fun _ h => .inl h) (fun b h1 h2 => .inr ⟨h1, h2⟩)
          have hS1 : ∀ b, b < w.heap.size → (S2 b ↔ frozenBy μ S ks b) := fun b hb => ⟨fun h => by
            rcases h with h | ⟨h, _⟩
            · rcases g2.st' b h with h | h
              · exact h
              · omega
            · have := (g4 b h).2.1; omega, fun h => .inl (g2.st b h)⟩
          have slt2 : ∀ b, S2 b → b < w'.heap.size := fun b h => by
            rcases h with h | ⟨h, _⟩
            · exact g2.slt b h
            · exact (g4 b h).2.2
          have hσ' : StoRep μ S2 w' (applyMem σ (freezeE σ ks)) := ⟨fun k b hb => (f1.blk k b hb).mono (KeysOk.refl μ) (fun b h => .inl (g2.st b h)) (fun b hb => old b (f1.slt b hb)) rfl (fun b hb => ⟨hS1 b (hσ.lt k b hb), old b (hσ.lt k b hb)⟩), f1.dom, f1.inj, fun k b hb => Nat.lt_of_lt_of_le (hσ.lt k b hb) g2.size, slt2⟩
          have hg' : giveBack k (applyMem σ (freezeE σ ks)) rs = some (xs, m) := by
            rw [← hg]
            refine giveBack_congr rs k _ _ fun j _ => ?_
            rw [lk_applyMem_freeze]
            split
            · cases lk σ j <;> simp
            · rfl
          obtain ⟨μ2, k1, k2, k3, k4⟩ := giveBack_ok hσ' g3' (fun b hb => ⟨fun h => by
            rcases h with h | ⟨_, h⟩
            · exact (g4 b (hsub b hb)).1 h
            · exact h hb, fun j hj => by have := hσ.lt j b hj; have := hbs b hb; omega⟩) hg'
          refine ⟨_, μ2, S2, rfl, single_rep k2, by rw [applyMem_append]; exact k1, ⟨k3, fun b h => .inl (g2.st b (.inl h)), fun b hb => old b (hσ.slt b hb), fun b hb _ => old b hb, fun j b hj => ?_, fun b h => ?_, g2.size, g2.os, g2.tape, g2.output⟩⟩
          · rcases k4 j b hj with h | h
            · exact .inl ⟨j, h⟩
            · exact .inr (hbs b h)
          · rcases h with h | ⟨h, _⟩
            · rcases g2.st' b h with (h | ⟨j, _, h⟩) | h
              · exact .inl h
              · exact .inr (.inl ⟨j, h⟩)
              · exact .inr (.inr h)
            · exact .inr (.inr (g4 b h).2.1)
      · cases h
    · cases h
  · cases h

/-! ### Calls that boxes are lent to -/
noncomputable def blockOf (μ : Nat → Option KS) (k : Nat) : Nat := match μ k with
  | some (.box b) => b
  | _ => 0
theorem lend_spec {bset : List Nat} : ∀ {args : List AV} {vs : List Value} {n : Nat} {as : List BA} {keys ks : List Nat}, lend σ bset n args = some (as, keys, ks) → PW (RepA μ S w) args vs → StoRep μ S w σ →
    (∀ k ∈ keys, ∃ b, μ k = some (.box b)) → ∀ {K : List Nat} {pre : List Nat}, (∀ k ∈ ks, k ∈ K) → pre.length = n → PW (BArg (frozenBy μ S K) w (pre ++ keys.map (blockOf μ))) as vs
  | [], vs, n, as, keys, ks, h, ha, _, _, K, pre, _, _ => by
    cases h
    cases vs with
    | nil => exact PW.nil
    | cons v r => exact absurd ha.1 (by simp)
  | x :: r, vs, n, as, keys, ks, h, ha, hσ, hb, K, pre, hK, hp => by
    cases vs with
    | nil => exact absurd ha.1 (by simp)
    | cons v vs =>
      have hx : RepA μ S w x v := ha.2 0 x v rfl rfl
      have hr : PW (RepA μ S w) r vs := ⟨by have := ha.1; simpa using this, fun j y u hy hu => ha.2 (j + 1) y u (by simpa using hy) (by simpa using hu)⟩
      unfold lend at h
      split at h
      · rename_i k hk
        split at h
        · rename_i as' keys' ks' hl
          cases h
          obtain ⟨b, hmb⟩ := hb k (by simp)
          have hxk : x = .bp k 0 := by
            split at hk
            · split at hk
              · cases hk; rfl
              · cases hk
            · cases hk
          subst hxk
          have ih := lend_spec hl hr hσ (fun k hk => hb k (List.mem_cons_of_mem _ hk)) (K := K) (pre := pre ++ [blockOf μ k]) hK (by simp [hp])
          refine PW.cons ⟨b, ?_, ?_⟩ ?_
          · rw [List.getElem?_append_right (by omega), hp]; simp [blockOf, hmb]
          · cases hx with | bp h => rw [hmb] at h; exact h
          · simpa [List.append_assoc] using ih
        · cases h
      · split at h
        · rename_i p ks1 as' keys' ks' hp' hl
          cases h
          exact PW.cons (resolve_sound hσ (fun b hb => .inl hb) deep _ v p ks1 hx hp' fun k' hk b hb => .inr ⟨k', hK k' (by simp [hk]), hb⟩) (lend_spec hl hr hσ hb (fun k hk => hK k (by simp [hk])) hp)
        · cases h
theorem lentCells_spec (hσ : StoRep μ S w σ) : ∀ {keys : List Nat} {bs : List (List PV)} {ks : List Nat}, lentCells σ keys = some (bs, ks) → keys.length = bs.length ∧ (∀ k ∈ keys, ∃ b, μ k = some (.box b) ∧ ¬ S b ∧ b < w.heap.size ∧ lk σ k ≠ none) ∧
    ∀ {K : List Nat}, (∀ k ∈ ks, k ∈ K) → ∀ (i k : Nat) (c : List PV), keys[i]? = some k → bs[i]? = some c → BoxAt (frozenBy μ S K) w (blockOf μ k) c
  | [], bs, ks, h => by cases h; exact ⟨rfl, fun k hk => by simp at hk, fun _ i k c hk => by simp at hk⟩
  | k :: r, bs, ks, h => by
    unfold lentCells at h
    split at h
    · rename_i cs hlk
      split at h
      · rename_i ps ks1 pss ks' hp hr
        cases h
        obtain ⟨h1, h2, h3⟩ := lentCells_spec hσ hr
        obtain ⟨b, cur, e0, m1, m2, m3, m4, m5⟩ := hσ.blk k _ hlk
        obtain ⟨g1, g2⟩ := mapR_spec hp
        refine ⟨by simp [h1], fun k' hk' => ?_, fun {K} hK i k' c hk' hc => ?_⟩
        · rcases List.mem_cons.1 hk' with rfl | hk'
          · exact ⟨b, m1, fun h => by simpa using m2.1 h, hσ.lt k' b (by rw [m1]; rfl), by rw [hlk]; simp⟩
          · exact h2 k' hk'
        · cases i with
          | zero =>
            simp at hk' hc
            subst hk'; subst hc
            have e : blockOf μ k = b := by simp [blockOf, m1]
            rw [e]
            refine ⟨cur, e0, m3, by rw [m4, g1], fun j x v hx hv => ?_⟩
            have hj : j < cs.length := by rw [g1]; exact (List.getElem?_eq_some_iff.1 hx).1
            have hy := List.getElem?_eq_getElem hj
            obtain ⟨l, q1, q2⟩ := g2 j _ x hy hx
            exact resolve_sound hσ (fun b hb => .inl hb) deep _ v x l (m5 j _ v hy hv) q1 fun k' hk b hb => .inr ⟨k', hK k' (by simp [q2 k' hk]), hb⟩
          | succ i => exact h3 (fun k hk => hK k (by simp [hk])) i k' c (by simpa using hk') (by simpa using hc)
      · cases h
    · cases h
theorem nodupB_spec : ∀ {l : List Nat}, nodupB l = true → l.Nodup
  | [], _ => List.nodup_nil
  | k :: r, h => by
    simp only [nodupB, Bool.and_eq_true, Bool.not_eq_true', List.contains_eq_mem, decide_eq_false_iff_not] at h
    exact List.nodup_cons.2 ⟨h.1, nodupB_spec h.2⟩
theorem keysOf_lent : ∀ (keys : List Nat) (cs : List (List PV)), ∀ k ∈ keysOf (lentBack keys cs), k ∈ keys
  | [], cs, k, h => by cases cs <;> simp [lentBack, keysOf] at h
  | a :: r, [], k, h => by simp [lentBack, keysOf] at h
  | a :: r, c :: cs, k, h => by
    simp only [lentBack, keysOf, List.map_cons, List.mem_cons] at h
    rcases h with rfl | h
    · simp
    · exact List.mem_cons_of_mem _ (keysOf_lent r cs k h)
theorem lk_lent : ∀ {keys : List Nat} {cs : List (List PV)} {σ : Store} {i k : Nat} {c : List PV}, keys.Nodup → keys[i]? = some k → cs[i]? = some c → lk (applyMem σ (lentBack keys cs)) k = some (.box true (c.map .pv))
  | [], cs, σ, i, k, c, _, h, _ => by simp at h
  | a :: r, [], σ, i, k, c, _, _, h => by simp at h
  | a :: r, d :: cs, σ, 0, k, c, hn, hk, hc => by
    simp at hk hc
    subst hk; subst hc
    simp only [lentBack, applyMem]
    rw [lk_applyMem (fun h => (List.nodup_cons.1 hn).1 (keysOf_lent r cs _ h)), lk_ins, if_pos rfl]
  | a :: r, d :: cs, σ, i + 1, k, c, hn, hk, hc => by
    simp only [lentBack, applyMem]
    exact lk_lent (List.nodup_cons.1 hn).2 (by simpa using hk) (by simpa using hc)

theorem BoxAt.mono {b : Nat} {cs ds : List PV} (h : BoxAt S w b cs) (hS : ∀ b, S b → S' b) (hl : PVsLe cs ds) : BoxAt S' w b ds := by
  obtain ⟨cur, e, h1, h2, h3⟩ := h
  refine ⟨cur, e, h1, by rw [h2, hl.1], fun j x v hx hv => ?_⟩
  obtain ⟨p, hp, hle⟩ := pw_get hl.1 hl.2 hx
  exact ((h3 j p v hp hv).weaken hle).mono hS (fun _ _ => rfl)

theorem pureB_ok {q : Orc} (hgl : GlobOk P S w) (hq : q.Ok P) {g k : Nat} {args : List AV} {vs : List Value} {e : Eff} (h : pureB q g args k σ = some e) (hσ : StoRep μ S w σ) (ha : PW (RepA μ S w) args vs) :
    Calls P g vs.toArray w (fun e' w' => ∃ v μ' S', e' = .returned v ∧ RepA μ' S' w' e.val v ∧ StoRep μ' S' w' (applyMem σ e.mem) ∧ Ext μ S w μ' S' w') ∧ (callFunc g vs.toArray).run P w = .ok (.enter g vs.toArray) w := by
  unfold pureB at h
  split at h
  · rename_i as keys ks hlend
    split at h
    · rename_i bs ks' hlc
      split at h
      · rename_i hc
        simp only [Bool.and_eq_true] at hc
        obtain ⟨hc1, hc2⟩ := hc
        split at h
        · rename_i rs cs hcal
          split at h
          · rename_i hlen
            have hnd := nodupB_spec hc1
            have hdis : ∀ k ∈ keys, k ∉ ks ++ ks' := fun k hk => by
              have := List.all_eq_true.1 hc2 k hk
              simpa using this
            obtain ⟨l1, l2, l3⟩ := lentCells_spec hσ hlc
            have hbox : ∀ k ∈ keys, owns (μ k) (blockOf μ k) ∧ ¬ S (blockOf μ k) ∧ blockOf μ k < w.heap.size := fun k hk => by
              obtain ⟨b, hb, hS, hlt, _⟩ := l2 k hk
              have e : blockOf μ k = b := by simp [blockOf, hb]
              rw [e]
              exact ⟨by rw [hb]; rfl, hS, hlt⟩
            have notF : ∀ k ∈ keys, ¬ frozenBy μ S (ks ++ ks') (blockOf μ k) := fun k hk hf => by
              obtain ⟨o, hS, _⟩ := hbox k hk
              rcases hf with hf | ⟨k', hk', o'⟩
              · exact hS hf
              · exact hdis k hk (hσ.inj k k' _ o o' ▸ hk')
            have hargs : PW (BArg (frozenBy μ S (ks ++ ks')) w (keys.map (blockOf μ))) as vs := lend_spec hlend ha hσ (fun k hk => by obtain ⟨b, hb, _⟩ := l2 k hk; exact ⟨b, hb⟩) (K := ks ++ ks') (pre := []) (fun k hk => List.mem_append_left _ hk) rfl
            have hltF : ∀ b, frozenBy μ S (ks ++ ks') b → b < w.heap.size := fun b hb => by
              rcases hb with hb | ⟨k', _, hb⟩
              · exact hσ.slt b hb
              · exact hσ.lt k' b hb
            have hnodup : (keys.map (blockOf μ)).Nodup := by
              rw [List.Nodup, List.pairwise_map]
              refine List.Pairwise.imp_of_mem (fun {a b} hA hB hne heq => hne ?_) hnd
              have o1 := (hbox a hA).1
              have o2 := (hbox b hB).1
              rw [← heq] at o2
              exact hσ.inj a b _ o1 o2
            obtain ⟨hcalls, hrun⟩ := hq.calB g as bs rs cs hcal (frozenBy μ S (ks ++ ks')) w vs (keys.map (blockOf μ)) hltF (hgl.mono (fun _ h => .inl h) (fun _ _ => rfl)) (by simpa using l1) (fun b hb => by
              obtain ⟨k, hk, rfl⟩ := List.mem_map.1 hb
              exact ⟨notF k hk, (hbox k hk).2.2⟩) hnodup (fun i b c hb hcs => by
              rw [List.getElem?_map, Option.map_eq_some_iff] at hb
              obtain ⟨k, hk, rfl⟩ := hb
              exact l3 (K := ks ++ ks') (fun k hk => List.mem_append_right _ hk) i k c hk hcs) hargs
            refine ⟨hcalls.mono fun e' w' hp => ?_, hrun⟩
            obtain ⟨S1, rs0, us, nb0, cs0, ⟨hle, hcle⟩, rfl, g3, g2, g4, g5, g6⟩ := hp
            obtain ⟨nb, hsub, hwk⟩ := rvs_weaken hle g3
            let S2 : Nat → Prop := fun b => S1 b ∨ (b ∈ nb0 ∧ b ∉ nb)
            have g3' : RVs S2 w' rs us nb := hwk S2 (fun _ h => .inl h) (fun b h1 h2 => .inr ⟨h1, h2⟩)
            have hnb : ∀ b ∈ nb, w.heap.size ≤ b := fun b hb => (g4 b (hsub b hb)).2.1
            have inbl : ∀ {k b}, owns (μ k) b → b ∈ keys.map (blockOf μ) → k ∈ keys := fun {k b} o hb => by
              obtain ⟨k', hk', rfl⟩ := List.mem_map.1 hb
              rw [hσ.inj k k' _ o (hbox k' hk').1]; exact hk'
            have oldF : ∀ b, frozenBy μ S (ks ++ ks') b → w'.heap[b]? = w.heap[b]? := fun b hb => g2.mem b (hltF b hb) fun hm => by
              obtain ⟨k', hk', rfl⟩ := List.mem_map.1 hm
              exact notF k' hk' hb
            have S2old : ∀ b, b < w.heap.size → (S2 b ↔ frozenBy μ S (ks ++ ks') b) := fun b hb => ⟨fun h => by
              rcases h with h | ⟨h, _⟩
              · rcases g2.st' b h with h | h
                · exact h
                · omega
              · have := (g4 b h).2.1; omega, fun h => .inl (g2.st b h)⟩
            have slt2 : ∀ b, S2 b → b < w'.heap.size := fun b h => by
              rcases h with h | ⟨h, _⟩
              · exact g2.slt b h
              · exact (g4 b h).2.2
            obtain ⟨f1, f2⟩ := freeze_ok hσ (ks ++ ks')
            have hσ1 : StoRep μ S2 w' (applyMem (applyMem σ (freezeE σ (ks ++ ks'))) (lentBack keys cs)) := by
              refine ⟨fun k' b' hb' => ?_, fun k' hk' => ?_, hσ.inj, fun k b hb => Nat.lt_of_lt_of_le (hσ.lt k b hb) g2.size, slt2⟩
              · by_cases hm : k' ∈ keys
                · obtain ⟨i, hi, rfl⟩ := List.getElem_of_mem hm
                  have hki := List.getElem?_eq_getElem hi
                  have hci := List.getElem?_eq_getElem (l := cs) (i := i) (by omega)
                  rw [lk_lent hnd hki hci] at hb'
                  cases hb'
                  have hci0 := List.getElem?_eq_getElem (l := cs0) (i := i) (by have := hcle.1; omega)
                  obtain ⟨cur, e0, m3, m4, m5⟩ := (g6 i (blockOf μ keys[i]) _ (by rw [List.getElem?_map, hki]; rfl) hci0).mono (S' := S2) (fun _ h => .inl h) (hcle.2 i _ _ hci0 hci)
                  obtain ⟨b, hb, _, _, _⟩ := l2 _ hm
                  have e : blockOf μ keys[i] = b := by simp [blockOf, hb]
                  rw [e] at m3
                  refine ⟨b, cur, e0, hb, ⟨fun h => ?_, fun h => by cases h⟩, m3, by simpa using m4, fun j x v hx hv => ?_⟩
                  · exact absurd ((S2old b (e ▸ (hbox _ hm).2.2)).1 h) (e ▸ notF _ hm)
                  · rw [List.getElem?_map, Option.map_eq_some_iff] at hx
                    obtain ⟨p, hp, rfl⟩ := hx
                    exact .pv (m5 j p v hp hv)
                · rw [lk_applyMem (fun h => hm (keysOf_lent keys cs _ h))] at hb'
                  exact (f1.blk k' b' hb').mono (KeysOk.refl μ) (fun b h => .inl (g2.st b h)) oldF rfl (fun b ho => ⟨S2old b (hσ.lt k' b ho), g2.mem b (hσ.lt k' b ho) fun h => hm (inbl ho h)⟩)
              · by_cases hm : k' ∈ keys
                · obtain ⟨i, hi, rfl⟩ := List.getElem_of_mem hm
                  rw [lk_lent hnd (List.getElem?_eq_getElem hi) (List.getElem?_eq_getElem (l := cs) (i := i) (by omega))] at hk'
                  cases hk'
                · rw [lk_applyMem (fun h => hm (keysOf_lent keys cs _ h))] at hk'
                  exact f1.dom k' hk'
            unfold lentE at h
            split at h
            · rename_i xs m hg
              cases h
              have hg' : giveBack k (applyMem (applyMem σ (freezeE σ (ks ++ ks'))) (lentBack keys cs)) rs = some (xs, m) := by
                rw [← hg]
                refine giveBack_congr rs k _ _ fun j _ => ?_
                by_cases hm : j ∈ keys
                · obtain ⟨i, hi, rfl⟩ := List.getElem_of_mem hm
                  rw [lk_lent hnd (List.getElem?_eq_getElem hi) (List.getElem?_eq_getElem (l := cs) (i := i) (by omega))]
                  obtain ⟨_, _, _, _, h0⟩ := l2 _ hm
                  simp [h0]
                · rw [lk_applyMem (fun h => hm (keysOf_lent keys cs _ h)), lk_applyMem_freeze]
                  split
                  · cases lk σ j <;> simp
                  · rfl
              obtain ⟨μ2, k1, k2, k3, k4⟩ := giveBack_ok hσ1 g3' (fun b hb => ⟨fun h => by
                rcases h with h | ⟨_, h⟩
                · exact (g4 b (hsub b hb)).1 h
                · exact h hb, fun j hj => by have := hσ.lt j b hj; have := hnb b hb; omega⟩) hg'
              refine ⟨_, μ2, S2, rfl, single_rep k2, by rw [applyMem_append, applyMem_append]; exact k1, ⟨k3, fun b h => .inl (g2.st b (.inl h)), fun b hb => oldF b (.inl hb), fun b hb hn => g2.mem b hb fun hm => ?_, fun j b hj => ?_, fun b h => ?_, g2.size, g2.os, g2.tape, g2.output⟩⟩
              · obtain ⟨k', hk', rfl⟩ := List.mem_map.1 hm
                exact hn k' (hbox k' hk').1
              · rcases k4 j b hj with h | h
                · exact .inl ⟨j, h⟩
                · exact .inr (hnb b h)
              · rcases h with h | ⟨h, _⟩
                · rcases g2.st' b h with (h | ⟨j, _, h⟩) | h
                  · exact .inl h
                  · exact .inr (.inl ⟨j, h⟩)
                  · exact .inr (.inr h)
                · exact .inr (.inr (g4 b h).2.1)
            · cases h
          · cases h
        · cases h
      · cases h
    · cases h
  · cases h

theorem turn_grow (h : StoRep μ S w σ) {k b : Nat} (ho : owns (μ k) b) (hl : ¬ S b) {x : Blk} (ne : ∀ c, c < w.heap.size → c ≠ b → w'.heap[c]? = w.heap[c]?) (hz : w.heap.size ≤ w'.heap.size) (h1 : w'.os = w.os) (h2 : w'.tape = w.tape) (h3 : w'.output = w.output) (hx : BlkRep μ S w' k x) :
    StoRep μ S w' (ins k x σ) ∧ Ext μ S w μ S w' := by
  have neS : ∀ c, S c → c ≠ b := fun c hc e => hl (e ▸ hc)
  refine ⟨h.upd (KeysOk.refl μ) (fun _ hb => hb) (fun c hc => ne c (h.slt c hc) (neS c hc)) hz k x (fun j => lk_ins k j x σ) hx (fun j _ => rfl) (fun j c hj hoj => ⟨⟨Iff.rfl, ne c (h.lt j c hoj) fun e => ?_⟩, fun ho' => ?_⟩) (fun c hc => Nat.lt_of_lt_of_le (h.lt k c hc) hz) (fun c hc => Nat.lt_of_lt_of_le (h.slt c hc) hz), ⟨KeysOk.refl μ, fun _ hb => hb, fun c hc => ne c (h.slt c hc) (neS c hc), fun c hc hn => ne c hc fun e => hn k (e ▸ ho), fun j c hj => .inl ⟨j, hj⟩, fun c hc => .inl hc, hz, h1, h2, h3⟩⟩
  · subst e; exact hj (h.inj j k c hoj ho)
  · exact hj (h.inj j k c hoj ho')
theorem pureS_ok {g : Nat} (hgl : GlobOk P S w) (hg : SrtOk P g) {k : Nat} {args : List AV} {vs : List Value} {e : Eff} (h : pureS args σ = some e) (hσ : StoRep μ S w σ) (ha : PW (RepA μ S w) args vs) :
    Calls P g vs.toArray w (fun e' w' => ∃ v μ' S', e' = .returned v ∧ RepA μ' S' w' e.val v ∧ StoRep μ' S' w' (applyMem σ e.mem) ∧ Ext μ S w μ' S' w') ∧ (callFunc g vs.toArray).run P w = .ok (.enter g vs.toArray) w := by
  unfold pureS at h
  split at h
  · rename_i r off len
    split at h
    · rename_i e0 es hlk
      split at h
      · rename_i zs hz
        split at h
        · rename_i hlt
          cases h
          have hes := intsOf_spec hz
          match vs, ha with
          | [], ha => exact absurd ha.1 (by simp)
          | _ :: _ :: _, ha => exact absurd ha.1 (by simp)
          | [v], ha =>
          refine ⟨?_, hg.2.1 _ w rfl⟩
          have hv := ha.2 0 _ v rfl rfl
          cases hv with
          | ms hm =>
            rcases hσ.blk r _ hlk with ⟨g1, g2⟩ | ⟨b, cap, cur, hμ, hl, hh, g1, g2, g3, hcells⟩
            · rw [g2] at hm
              obtain ⟨rfl, rfl, a, rfl⟩ := hm
              rw [g1] at hes
              obtain rfl : zs = [] := by cases zs with | nil => rfl | cons _ _ => cases hes
              have q := pureA_ok (hgl := hgl) (q := ⟨fun g' ps' => if g' = g ∧ ps'.length = 1 ∧ ps'.all (fun p => match p with | .sl true [] => true | _ => false) then some [] else none, fun x => x, [], fun _ _ _ => none, false, fun _ => false, false⟩) (P := P) (k := 0)
                ⟨fun g' ps' rs h => (by
                  simp only at h
                  split at h
                  · rename_i hc
                    obtain ⟨rfl, h1, h2⟩ := hc
                    cases h
                    match ps', h1, h2 with
                    | [p], _, h2 =>
                      simp only [List.all_cons, List.all_nil, Bool.and_true] at h2
                      split at h2
                      · exact hg.2.2
                      · cases h2
                  · cases h), fun x => .refl x, fun _ _ _ _ _ h => (by cases h), fun _ h => (by cases h)⟩ (g := g) (args := [.pv (.sl true [])]) (vs := [.slice a 0 0]) (e := ⟨.pv (.tuple []), [], []⟩) (μ := μ) (S := S) (w := w) (σ := σ)
                (by simp [pureA, mapR, resolve, deep, callE, giveBack, single, AV.mkTuple, allPV, keysFrom, freezeE]) hσ
                ⟨rfl, fun j x v hx hv => by
                  cases j with
                  | zero => cases hx; cases hv; exact .pv (.sl 0 (fun _ _ => undef) (by simp [maxLen]) (Nat.le_refl _) (fun _ => rfl) (fun i p h => by simp at h) (fun i p j q h => by simp at h) (fun i p j q h => by simp at h))
                  | succ j => simp at hx⟩
              refine q.1.mono fun e' w' hh => ?_
              obtain ⟨v, μ', S', rfl, k1, k2, k3⟩ := hh
              refine ⟨v, μ', S', rfl, k1, ?_, k3⟩
              simp only [applyMem] at k2 ⊢
              rw [g1] at hlk
              simp only [List.mergeSort_nil, List.map_nil]
              exact k2.again hlk
            · rw [hμ] at hm
              obtain ⟨a, c, rfl, h1, h2, h3⟩ := hm
              obtain ⟨rfl, rfl, hcc, rfl⟩ := h3 rfl
              subst hcc
              have hlen : zs.length = es.length := by rw [hes]; simp
              have ht : cur.toList.take zs.length = zs.map (Value.int .i64) := by
                apply List.ext_getElem?
                intro i
                by_cases hi : i < zs.length
                · have hp : es[i]? = some (intE zs[i]) := by rw [hes]; simp [hi]
                  obtain ⟨_, hc⟩ := hcells i _ hp
                  have hci : i < cur.size := by rw [g3]; omega
                  have := rep_lit (hc 0 (intE zs[i]) cur[i] rfl (by simp [hci]))
                  rw [List.getElem?_take_of_lt hi, Array.getElem?_toList, Array.getElem?_eq_getElem hci, List.getElem?_map, List.getElem?_eq_getElem hi, this]
                  rfl
                · rw [List.getElem?_take_eq_none (by omega), List.getElem?_eq_none (by simp; omega)]
              have hb : b < w.heap.size := (Array.getElem?_eq_some_iff.1 hh).1
              have hH := holds_of_blockI hh ht
              rw [← hlen]
              refine (hg.1 b _ zs w hH hb hlt).mono fun e' w' hpost => ?_
              obtain ⟨rfl, n, os, rfl⟩ := hpost
              obtain ⟨u1, u2, u3, u4, u5⟩ := grownBy_sortedI (w := w) (g := b) (n := n) (os := os) (zs.mergeSort fun x y => decide (x ≤ y)).toArray
              have ml : (zs.mergeSort fun x y => decide (x ≤ y)).length = zs.length := List.length_mergeSort _
              have hs := heap_sortedI (n := n) (os := os) (zs.mergeSort fun x y => decide (x ≤ y)).toArray hh
              have nS : ¬ S b := fun h => by simpa using hl.1 h
              have tk := take_putCellsI cur (zs.mergeSort fun x y => decide (x ≤ y)) (by rw [ml, g3]; omega)
              obtain ⟨s1, s2⟩ := turn_grow hσ (k := r) (b := b) (by rw [hμ]; rfl) nS (x := .row true e0 1 ((zs.mergeSort fun x y => decide (x ≤ y)).map intE))
                (fun c hc hne => u5 c hc (fun e => hne (by cases e; rfl))) u4 (by assumption) (by assumption) (by assumption)
                (.inr ⟨b, _, _, by rw [List.length_map, ml, hlen]; exact hμ, hl, hs, by rw [List.length_map, ml, hlen]; exact g1, g2, by simp [Sort.putCells, g3], fun i p hp => by
                  rw [List.getElem?_map, Option.map_eq_some_iff] at hp
                  obtain ⟨z, hz, rfl⟩ := hp
                  have hi : i < (zs.mergeSort fun x y => decide (x ≤ y)).length := (List.getElem?_eq_some_iff.1 hz).1
                  refine ⟨rfl, fun j q v hq hv => ?_⟩
                  cases j with
                  | succ j => simp [intE, PV.cells] at hq
                  | zero =>
                    cases hq
                    have h0 := congrArg (fun l => l[i]?) tk
                    simp only [List.getElem?_take_of_lt hi, List.getElem?_map, hz, Option.map_some, Array.getElem?_toList] at h0
                    simp only [Nat.mul_one, Nat.add_zero] at hv
                    rw [h0] at hv
                    cases hv
                    exact .lit rfl⟩)
              exact ⟨undef, μ, S, rfl, undef_rep, s1, s2⟩
        · cases h
      · cases h
    · cases h
  · cases h
/-- One operation of a region. -/
theorem opA_ok {q : Orc} (hgl : GlobOk P S w) (hq : q.Ok P) {all : List Oper} {o : Oper} {s : St} {e : Eff} {a : Act} (h : opA P q all o s = some e) (hσ : StoRep μ S w s.sto) (he : EnvRep μ S w s.env a.tmps)
    {K : Act → World → Prop} {Q : Exit → Act → World → Prop} (hK : ∀ v μ' S' w', RepA μ' S' w' e.val v → StoRep μ' S' w' (applyMem s.sto e.mem) → Ext μ S w μ' S' w' → K (a.put o.dst v) w') :
    if Region.wanted o (yielded all.toArray a.tmps) then o.wp P a w K Q else K (a.put o.dst undef) w := by
  unfold opA at h
  split at h
  · rename_i hw
    cases h
    rw [wantedA_ok he hw]
    exact hK undef μ S w undef_rep hσ (Ext.refl _ _ _)
  · rename_i hw
    rw [wantedA_ok he hw, if_pos rfl]
    split at h
    · rename_i p hp
      split at h
      · rename_i e1 he1
        split at h
        · rename_i e2 he2
          cases h
          have hK' : ∀ v μ' S' w', RepA μ' S' w' e1.val v → StoRep μ' S' w' (applyMem s.sto e1.mem) → Ext μ S w μ' S' w' → K (a.put o.dst v) w' := by
            unfold frzE at he2
            split at he2
            · cases he2; exact fun v μ' S' w' r1 r2 r3 => hK v μ' S' w' (r1.weaken (hq.wk _)) r2 r3
            · split at he2
              · rename_i p ks hm hr
                cases he2
                intro v μ' S' w' r1 r2 r3
                rw [hm] at r2
                simp only [applyMem] at r2
                obtain ⟨f1, f2⟩ := freeze_ok r2 ks
                exact hK v μ' (frozenBy μ' S' ks) w' ((RepA.pv (resolve_rep r2 r1 hr)).weaken (hq.wk _)) f1 (r3.trans f2)
              · cases he2
          cases p with
          | eff e' =>
            simp only [effA, Option.some.injEq] at he1
            subst he1
            obtain ⟨v, μ', S', w', h1, h2, h3, h4⟩ := prep_eff hσ he.ev hp
            unfold Oper.wp
            rcases h1 with h1 | ⟨h1, rfl⟩
            · rw [h1]; exact hK' v μ' S' w' h2 h3 h4
            · rw [h1]; exact hK' undef μ' S' w' h2 h3 h4
          | call g args =>
            simp only [effA] at he1
            obtain ⟨vs, p1, p2⟩ := prep_call he.ev hp
            have both : Calls P g vs.toArray w (fun e' w' => ∃ v μ' S', e' = .returned v ∧ RepA μ' S' w' e1.val v ∧ StoRep μ' S' w' (applyMem s.sto e1.mem) ∧ Ext μ S w μ' S' w') ∧ (callFunc g vs.toArray).run P w = .ok (.enter g vs.toArray) w := by
              split at he1
              · rename_i hs
                exact pureS_ok (k := 0) hgl (hq.srt g hs) he1 hσ p1
              · split at he1
                · exact pureA_ok hgl hq he1 hσ p1
                · exact pureB_ok hgl hq he1 hσ p1
            obtain ⟨q1, q2⟩ := both
            unfold Oper.wp
            rw [p2, q2, Oper.upon_enter]
            refine q1.mono fun e' w' hh => ?_
            obtain ⟨v, μ', S', rfl, k1, k2, k3⟩ := hh
            exact hK' v μ' S' w' k1 k2 k3
        · cases h
      · cases h
    · cases h
  · cases h
end Go.Mir
