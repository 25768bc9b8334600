/- Marks that are taken at a function's end; the record of a range over a function (lemmas; conditions: what they say). -/
import Derived.Test.YthcmkipbdgndoaaGreatDoorNx22
import Derived.RangeFuncRecord
set_option linter.all false
set_option linter.unusedVariables false
set_option linter.unusedSimpArgs false
set_option linter.unnecessarySimpa false
namespace Go.Mir
open Go Go.RowKit
variable {P : Program} {μ μ' : Nat → Option KS} {S S' : Nat → Prop} {w w' : World} {σ σ' : Store}
variable [Globs P]

/-- Nothing turned but blocks for calls that wait, from n0 on. -/
structure Off (n0 : Nat) (w w' : World) : Prop where
  same : ∀ b, w'.heap[b]? = w.heap[b]? ∨ (n0 ≤ b ∧ (∃ x, w.heap[b]? = some (.deferred x)) ∧ ∃ y, w'.heap[b]? = some (.deferred y))
  size : w'.heap.size = w.heap.size
  os : w'.os = w.os
  tape : w'.tape = w.tape
  output : w'.output = w.output
theorem Off.refl (n0 : Nat) (w : World) : Off n0 w w := ⟨fun _ => .inl rfl, rfl, rfl, rfl, rfl⟩
theorem Off.trans {n0 : Nat} {a b c : World} (h : Off n0 a b) (h' : Off n0 b c) : Off n0 a c := ⟨fun i => by
  rcases h'.same i with e | ⟨h1, ⟨x, h2⟩, h3⟩
  · rcases h.same i with e' | ⟨h1, h2, y, h3⟩
    · exact .inl (e.trans e')
    · exact .inr ⟨h1, h2, y, e.trans h3⟩
  · rcases h.same i with e' | ⟨_, h4, _⟩
    · exact .inr ⟨h1, ⟨x, e'.symm.trans h2⟩, h3⟩
    · exact .inr ⟨h1, h4, h3⟩, h'.size.trans h.size, h'.os.trans h.os, h'.tape.trans h.tape, h'.output.trans h.output⟩
theorem Off.other {n0 : Nat} (h : Off n0 w w') {b : Nat} {o : Obj} (hb : w.heap[b]? = some o) (ho : ∀ x, o ≠ .deferred x) : w'.heap[b]? = some o := by
  rcases h.same b with e | ⟨_, ⟨x, hx⟩, _⟩
  · exact e.trans hb
  · rw [hb] at hx; cases hx; exact absurd rfl (ho _)
theorem Off.cell {n0 : Nat} (h : Off n0 w w') {a : Addr} {v : Value} (hc : w.cell? a = some v) : w'.cell? a = some v := by
  rcases h.same a.block with e | ⟨_, ⟨x, hx⟩, _⟩
  · rw [World.cell?_of_block (w := w) e]; exact hc
  · unfold World.cell? at hc; rw [hx] at hc; simp at hc
theorem Rep.off {n0 : Nat} (ho : Off n0 w w') {p : PV} {v : Value} (h : Rep S w p v) : Rep S w' p v := by
  induction h with
  | lit h => exact .lit h
  | sl s f hn hc hf hs ha hr ih =>
    refine .sl s f hn hc hf hs (fun i p j q h1 h2 => ?_) ih
    obtain ⟨b, o, e, hb, hcell⟩ := ha i p j q h1 h2
    exact ⟨b, o, e, hb, ho.cell hcell⟩
  | ip f hb hc hr ih => exact .ip f hb (fun j q h => ho.cell (hc j q h)) ih
  | agg hl hr ih => exact .agg hl ih
  | tuple hl hr ih => exact .tuple hl ih
  | fn hl hr hl' hr' ih ih' => exact .fn hl ih hl' ih'
  | map hb hh hl hk hr ih => exact .map hb (ho.other hh (fun x e => by cases e)) hl hk ih
  | iface h ih => exact .iface ih
theorem RepA.off {n0 : Nat} (ho : Off n0 w w') {x : AV} {v : Value} (h : RepA μ S w x v) : RepA μ S w' x v := by
  induction h with
  | bot v => exact .bot v
  | pv h => exact .pv (h.off ho)
  | ms h => exact .ms h
  | rp h => exact .rp h
  | bp h => exact .bp h
  | mm h => exact .mm h
  | agg hl _ ih => exact .agg hl ih
  | tuple hl _ ih => exact .tuple hl ih
  | fn hl _ hl' _ ih ih' => exact .fn hl ih hl' ih'
  | nilq h => exact .nilq h
  | yl h => exact .yl h
  | gp => exact .gp
theorem EnvRep.off {n0 : Nat} {env : Env} {tmps : Array Value} (ho : Off n0 w w') (h : EnvRep μ S w env tmps) : EnvRep μ S w' env tmps := fun t x ht => by
  obtain ⟨v, h1, h2⟩ := h t x ht
  exact ⟨v, h1, h2.off ho⟩
theorem StoRep.off {n0 : Nat} (ho : Off n0 w w') (h : StoRep μ S w σ) : StoRep μ S w' σ where
  blk k b hb := by
    have h := h.blk k b hb
    cases b with
    | stale => exact h
    | gl g cs => exact ⟨h.1, h.2.off ho⟩
    | box live cs =>
      obtain ⟨b, cur, e, h1, h2, h3, h4, h5⟩ := h
      exact ⟨b, cur, e, h1, h2, ho.other h3 (fun x e => by cases e), h4, fun j x v hx hv => (h5 j x v hx hv).off ho⟩
    | row live e s es =>
      rcases h with h | ⟨b, cap, cur, h1, h2, h3, h4, h5, h6, h7⟩
      · exact .inl h
      · exact .inr ⟨b, cap, cur, h1, h2, ho.other h3 (fun x e => by cases e), h4, h5, h6, fun i p hp => ⟨(h7 i p hp).1, fun j q v hq hv => ((h7 i p hp).2 j q v hq hv).off ho⟩⟩
    | map live es =>
      obtain ⟨b, ents, clk, h1, h2, h3, h4, h5⟩ := h
      exact ⟨b, ents, clk, h1, h2, ho.other h3 (fun x e => by cases e), h4, fun i e m he hm => ⟨(h5 i e m he hm).1, (h5 i e m he hm).2.off ho⟩⟩
    | fmap live es =>
      obtain ⟨b, ents, clk, h1, h2, h3, h4, h5⟩ := h
      exact ⟨b, ents, clk, h1, h2, ho.other h3 (fun x e => by cases e), h4, fun i e m he hm => ⟨(h5 i e m he hm).1, (h5 i e m he hm).2.off ho⟩⟩
    | it live s pos =>
      obtain ⟨b, h1, h2, h3⟩ := h
      exact ⟨b, h1, h2, ho.other h3 (fun x e => by cases e)⟩
    | lp live busy pend =>
      obtain ⟨l, tmps, ps, as, body, rec, h1, h2, h3, h4⟩ := h
      exact ⟨l, tmps, ps, as, body, rec, h1, h2, ho.other h3 (fun x e => by cases e), h4⟩
  dom := h.dom
  inj := h.inj
  lt k b hb := by rw [ho.size]; exact h.lt k b hb
  slt b hb := by rw [ho.size]; exact h.slt b hb
theorem ExtB.off {B : List Nat} {w0 : World} (ho : Off w0.heap.size w w') (hS : ∀ b, S b → b < w0.heap.size) (h : ExtB B μ S w0 μ' S' w) : ExtB B μ S w0 μ' S' w' := by
  have low : ∀ b, b < w0.heap.size → w'.heap[b]? = w.heap[b]? := fun b hb => by
    rcases ho.same b with e | ⟨h1, _⟩
    · exact e
    · omega
  exact ⟨h.keys, h.st, fun b hb => (low b (hS b hb)).trans (h.mem b hb), fun b hb hn => (low b hb).trans (h.frame b hb hn), h.own', h.st', by rw [ho.size]; exact h.size, ho.os.trans h.os, ho.tape.trans h.tape, ho.output.trans h.output⟩
theorem takeMark {n0 : Nat} {D : Nat} (h : w.heap[D]? = some (.deferred (some []))) (hn : n0 ≤ D) : (Instr.takeDeferred D).run P w = .ok [] (w.putObj D (.deferred none)) ∧ Off n0 w (w.putObj D (.deferred none)) := by
  refine ⟨run_takeDeferred h, ⟨fun b => ?_, World.putObj_size, rfl, rfl, rfl⟩⟩
  by_cases e : b = D
  · subst e
    exact .inr ⟨hn, ⟨_, h⟩, none, World.putObj_heap_same (Array.getElem?_eq_some_iff.1 h).1⟩
  · exact .inl (World.putObj_heap_other e)
/-- A function's end, marks and all. -/
theorem leavesM_ok {F : Fence} {n : Nat} {n0 : Base} {fn : Func} {tmps : Array Value} {R : Ending → World → Prop} (ds : List Deferred) (w : World) (hm : Marks n0 S w ds) (h : ∀ w', Off n0.n w w' → LeavesInM F n P fn tmps R n0.ds .returning w') : LeavesInM F n P fn tmps R ds .returning w := by
  obtain ⟨h0, ms, rfl, hn, hd⟩ := hm
  induction ms generalizing w with
  | nil => exact h w (Off.refl n0.n w)
  | cons d ds ih =>
    obtain ⟨D, rfl, h1, h2, h3⟩ := hd d (by simp)
    obtain ⟨k1, k2⟩ := takeMark (P := P) h3 h1
    rw [List.cons_append]
    refine ⟨by simp, .inl ⟨D, _, rfl, k1, ih _ (fun w' hw' => h w' (k2.trans hw')) (by rw [World.putObj_size]; exact h0) (List.nodup_cons.1 (by simpa using hn)).2 fun d' hd' => ?_⟩⟩
    obtain ⟨D', rfl, q1, q2, q3⟩ := hd d' (List.mem_cons_of_mem _ hd')
    have hne : D' ≠ D := fun e => by
      subst e
      have := (List.nodup_cons.1 (by simpa using hn : ((Target.collected D' :: ds.map (·.target))).Nodup)).1
      exact this (List.mem_map.2 ⟨_, hd', rfl⟩)
    exact ⟨D', rfl, q1, q2, (World.putObj_heap_other hne).trans q3⟩

/-- The record of a range over a function turns. -/
theorem lp_set {kl : Nat} {b : Bool} {p : Option Code} (hσ : StoRep μ S w σ) (hk : lk σ kl = some (.lp true b p)) : ∃ l tmps ps as body rec, μ kl = some (.loop l tmps ps as body) ∧ w.heap[l]? = some (.loop rec) ∧ rec.state = (if b then .busy else if p.isNone then .ready else .done) ∧ rec.pending = p ∧ rec.params.toList = ps ∧ rec.assign = as ∧ rec.body = body ∧ rec.tmps = tmps ∧
    ∀ (rec' : Loop) (b' : Bool), rec'.state = (if b' then .busy else if rec'.pending.isNone then .ready else .done) → rec'.params = rec.params → rec'.assign = rec.assign → rec'.body = rec.body → rec'.tmps = rec.tmps →
      StoRep μ S (w.putObj l (.loop rec')) (ins kl (.lp true b' rec'.pending) σ) ∧ Ext μ S w μ S (w.putObj l (.loop rec')) := by
  obtain ⟨l, tmps, ps, as, body, rec, h1, h2', h3, h4, h5, h6, h7, h8, h9⟩ := hσ.blk kl _ hk
  have h2 : ¬ S l := fun h => by have := h2'.1 h; cases this
  refine ⟨l, tmps, ps, as, body, rec, h1, h3, h4, h5, h6, h7, h8, h9, fun rec' b' g1 g2 g3 g4 g5 => ?_⟩
  have hlt : l < w.heap.size := (Array.getElem?_eq_some_iff.1 h3).1
  have keep : ∀ c, c ≠ l → (w.putObj l (.loop rec')).heap[c]? = w.heap[c]? := fun c hc => World.putObj_heap_other hc
  have hS : ∀ c, S c → c ≠ l := fun c hc e => h2 (e ▸ hc)
  refine ⟨hσ.upd (KeysOk.refl μ) (fun _ h => h) (fun c hc => keep c (hS c hc)) (by rw [World.putObj_size]; exact Nat.le_refl _) kl _ (fun j => lk_ins kl j _ σ) ⟨l, tmps, ps, as, body, rec', h1, ⟨fun h => absurd h h2, fun h => by cases h⟩, World.putObj_heap_same hlt, g1, rfl, by rw [g2]; exact h6, g3.trans h7, g4.trans h8, g5.trans h9⟩ (fun _ _ => rfl) (fun j c hj hoj => ?_) (fun c hc => by rw [World.putObj_size]; exact hσ.lt kl c hc) (fun c hc => by rw [World.putObj_size]; exact hσ.slt c hc), ?_⟩
  · have hne : c ≠ l := fun e => hj (hσ.inj j kl c hoj (by rw [h1, e]; rfl))
    exact ⟨⟨Iff.rfl, keep c hne⟩, fun h => by rw [h1] at h; exact hne (Eq.symm h)⟩
  · exact ⟨KeysOk.refl μ, fun _ h => h, fun c hc => keep c (hS c hc), fun c _ hn => keep c (fun e => hn kl (by rw [h1, e]; rfl)), fun k c h => .inl ⟨k, h⟩, fun _ h => .inl h, by rw [World.putObj_size]; exact Nat.le_refl _, rfl, rfl, rfl⟩
/-- .. and goes. -/
theorem lp_end {kl : Nat} {p : Option Code} (hσ : StoRep μ S w σ) (hk : lk σ kl = some (.lp true false p)) : ∃ l tmps ps as body, μ kl = some (.loop l tmps ps as body) ∧ ∃ w' μ', (Instr.endLoop l).run P w = .ok p w' ∧ StoRep μ' S w' (ins kl .stale σ) ∧ Ext μ S w μ' S w' := by
  obtain ⟨l, tmps, ps, as, body, rec, h1, h2', h3, h4, h5, h6, h7, h8, h9⟩ := hσ.blk kl _ hk
  have h2 : ¬ S l := fun h => by have := h2'.1 h; cases this
  have hb : rec.state ≠ .busy := by
    rw [h4]; simp only [Bool.false_eq_true, if_false]; split <;> simp
  have hlt : l < w.heap.size := (Array.getElem?_eq_some_iff.1 h3).1
  obtain ⟨o, ho⟩ : ∃ o, o = Obj.loop { rec with state := .exhausted } := ⟨_, rfl⟩
  have keep : ∀ c, c ≠ l → (w.putObj l o).heap[c]? = w.heap[c]? := fun c hc => World.putObj_heap_other hc
  have hS : ∀ c, S c → c ≠ l := fun c hc e => h2 (e ▸ hc)
  have ko : KeysOk μ (updK μ kl .stale) := fun j x hj => by
    by_cases e : j = kl
    · subst e; exact .inr (updK_same _ _)
    · exact .inl (by rw [updK_ne e]; exact hj)
  refine ⟨l, tmps, ps, as, body, h1, w.putObj l o, updK μ kl .stale, by rw [run_endLoop h3 hb, ho, h5], ?_, ?_⟩
  · refine hσ.upd ko (fun _ h => h) (fun c hc => keep c (hS c hc)) (by rw [World.putObj_size]; exact Nat.le_refl _) kl .stale (fun j => lk_ins kl j _ σ) (updK_same _ _) (fun j hj => updK_ne hj _) (fun j c hj hoj => ?_) (fun c hc => by rw [updK_same] at hc; exact hc.elim) (fun c hc => by rw [World.putObj_size]; exact hσ.slt c hc)
    have hne : c ≠ l := fun e => hj (hσ.inj j kl c hoj (by rw [h1, e]; rfl))
    exact ⟨⟨Iff.rfl, keep c hne⟩, fun h => by rw [updK_same] at h; exact h⟩
  · exact ⟨ko, fun _ h => h, fun c hc => keep c (hS c hc), fun c _ hn => keep c (fun e => hn kl (by rw [h1, e]; rfl)), fun k c h => by
      by_cases e : k = kl
      · subst e; rw [updK_same] at h; exact h.elim
      · rw [updK_ne e] at h; exact .inl ⟨k, h⟩, fun _ h => .inl h, by rw [World.putObj_size]; exact Nat.le_refl _, rfl, rfl, rfl⟩
/-- .. and comes. -/
theorem lp_new {kl : Nat} (fn : FuncId) (tmps : Array Value) (ps : Array Tmp) (as body : Code) (hσ : StoRep μ S w σ) (hk : lk σ kl = none) : ∃ w' , (Instr.enterLoop fn tmps ps as body none).run P w = .ok (w.heap.size + 1, [{ target := .collected w.heap.size, args := #[] }]) w' ∧
    StoRep (updK μ kl (.loop (w.heap.size + 1) tmps ps.toList as body)) (fun b => S b ∨ b = w.heap.size) w' (ins kl (.lp true false none) σ) ∧ Ext μ S w (updK μ kl (.loop (w.heap.size + 1) tmps ps.toList as body)) (fun b => S b ∨ b = w.heap.size) w' ∧ w'.heap[w.heap.size]? = some (.deferred (some [])) := by
  refine ⟨_, run_enterLoop_outer fn tmps ps as body, ?_⟩
  generalize hw1 : (w.alloc (.deferred (some []))).alloc (.loop { state := .ready, pending := none, fn, tmps, params := ps, assign := as, body, defers := w.heap.size }) = w1
  have hz : w1.heap.size = w.heap.size + 2 := by rw [← hw1, World.size_alloc, World.size_alloc]
  have low : ∀ c, c < w.heap.size → w1.heap[c]? = w.heap[c]? := fun c hc => by
    rw [← hw1]
    exact (Below.heap_alloc _ _ _ (by rw [World.size_alloc]; omega)).trans (Below.heap_alloc _ _ _ hc)
  have hD : w1.heap[w.heap.size]? = some (.deferred (some [])) := by
    rw [← hw1]; exact (Below.heap_alloc _ _ _ (by simp)).trans (World.alloc_heap_new w _)
  have hL : w1.heap[w.heap.size + 1]? = some (.loop { state := .ready, pending := none, fn, tmps, params := ps, assign := as, body, defers := w.heap.size }) := by
    rw [← hw1]; have := World.alloc_heap_new (w.alloc (.deferred (some []))) (.loop { state := .ready, pending := none, fn, tmps, params := ps, assign := as, body, defers := w.heap.size }); rwa [World.size_alloc] at this
  have hos : w1.os = w.os ∧ w1.tape = w.tape ∧ w1.output = w.output := by rw [← hw1]; exact ⟨rfl, rfl, rfl⟩
  have ko := keysOk_new (hσ.dom kl hk) (.loop (w.heap.size + 1) tmps ps.toList as body)
  refine ⟨?_, ?_, hD⟩
  · refine hσ.upd ko (fun _ h => .inl h) (fun c hc => low c (hσ.slt c hc)) (by omega) kl _ (fun j => lk_ins kl j _ σ) ⟨_, _, _, _, _, _, updK_same _ _, ⟨fun h => (?_ : False).elim, fun h => by cases h⟩, hL, rfl, rfl, rfl, rfl, rfl, rfl⟩ (fun j hj => updK_ne hj _) (fun j c hj hoj => ?_) (fun c hc => ?_) (fun c hc => ?_)
    · rcases h with h | h
      · have := hσ.slt _ h; omega
      · omega
    · have hlt := hσ.lt j c hoj
      refine ⟨⟨⟨fun h => ?_, .inl⟩, low c hlt⟩, fun h => ?_⟩
      · rcases h with h | h
        · exact h
        · omega
      · rw [updK_same] at h
        have : w.heap.size + 1 = c := h
        omega
    · rw [updK_same] at hc
      have : w.heap.size + 1 = c := hc
      omega
    · rcases hc with h | h
      · have := hσ.slt c h; omega
      · omega
  · refine ⟨ko, fun _ h => .inl h, fun c hc => low c (hσ.slt c hc), fun c hc _ => low c hc, fun k c h => ?_, fun c h => ?_, by omega, hos.1, hos.2.1, hos.2.2⟩
    · by_cases e : k = kl
      · subst e; rw [updK_same] at h
        have : w.heap.size + 1 = c := h
        exact .inr (by omega)
      · rw [updK_ne e] at h; exact .inl ⟨k, h⟩
    · rcases h with h | h
      · exact .inl h
      · exact .inr (.inr (by omega))
end Go.Mir
