/- Steps of memory, and what they leave of what plain values stand for (lemmas; conditions: what they say). -/
import Derived.Test.YthcmkipbdgndoaaGreatDoorNx2
set_option linter.all false
set_option linter.unusedVariables false
set_option linter.unusedSimpArgs false
set_option linter.unnecessarySimpa false
namespace Go.Mir
open Go Go.RowKit
variable {P : Program} {μ μ' : Nat → Option KS} {S S' : Nat → Prop} {w w' : World} {σ σ' : Store}

theorem BlkRep.mono (hk : KeysOk μ μ') (hS : ∀ b, S b → S' b) (hm : ∀ b, S b → w'.heap[b]? = w.heap[b]?) {k : Nat} (e : μ' k = μ k)
    (hb : ∀ b, owns (μ k) b → (S' b ↔ S b) ∧ w'.heap[b]? = w.heap[b]?) {x : Blk} (h : BlkRep μ S w k x) : BlkRep μ' S' w' k x := by
  cases x with
  | stale => exact e.trans h
  | gl g cs => exact ⟨e.trans h.1, h.2.mono hS hm⟩
  | box live cs =>
    obtain ⟨b, cur, t, hμ, hl, hh, hsz, hc⟩ := h
    have o : owns (μ k) b := by rw [hμ]; rfl
    exact ⟨b, cur, t, e.trans hμ, (hb b o).1.trans hl, (hb b o).2.trans hh, hsz, fun j x v h1 h2 => (hc j x v h1 h2).mono hk hS hm⟩
  | row live t s es =>
    rcases h with ⟨h1, h2⟩ | ⟨b, cap, cur, hμ, hl, hh, h1, h2, h3, hc⟩
    · exact .inl ⟨h1, e.trans h2⟩
    · have o : owns (μ k) b := by rw [hμ]; rfl
      exact .inr ⟨b, cap, cur, e.trans hμ, (hb b o).1.trans hl, (hb b o).2.trans hh, h1, h2, h3, fun i p hp => ⟨(hc i p hp).1, fun j q v h4 h5 => ((hc i p hp).2 j q v h4 h5).mono hS hm⟩⟩
  | map live es =>
    obtain ⟨b, ents, clk, hμ, hl, hh, hsz, hc⟩ := h
    have o : owns (μ k) b := by rw [hμ]; rfl
    exact ⟨b, ents, clk, e.trans hμ, (hb b o).1.trans hl, (hb b o).2.trans hh, hsz, fun i x m h1 h2 => ⟨(hc i x m h1 h2).1, (hc i x m h1 h2).2.mono hS hm⟩⟩
  | fmap live es =>
    obtain ⟨b, ents, clk, hμ, hl, hh, hsz, hc⟩ := h
    have o : owns (μ k) b := by rw [hμ]; rfl
    exact ⟨b, ents, clk, e.trans hμ, (hb b o).1.trans hl, (hb b o).2.trans hh, hsz, fun i x m h1 h2 => ⟨(hc i x m h1 h2).1, (hc i x m h1 h2).2.mono hk hS hm⟩⟩
  | it live s pos =>
    obtain ⟨b, hμ, hl, hh⟩ := h
    have o : owns (μ k) b := by rw [hμ]; rfl
    exact ⟨b, e.trans hμ, (hb b o).1.trans hl, (hb b o).2.trans hh⟩
  | lp live busy pend =>
    obtain ⟨l, tmps, ps, as, body, rec, hμ, hl, hh, hr⟩ := h
    have o : owns (μ k) l := by rw [hμ]; rfl
    exact ⟨l, tmps, ps, as, body, rec, e.trans hμ, (hb l o).1.trans hl, (hb l o).2.trans hh, hr⟩

/-- One name's block turns, or is new. -/
theorem StoRep.upd (h : StoRep μ S w σ) (hk : KeysOk μ μ') (hS : ∀ b, S b → S' b) (hm : ∀ b, S b → w'.heap[b]? = w.heap[b]?) (hz : w.heap.size ≤ w'.heap.size)
    (k : Nat) (x : Blk) (hσ : ∀ j, lk σ' j = if k = j then some x else lk σ j) (hx : BlkRep μ' S' w' k x)
    (hμ : ∀ j, j ≠ k → μ' j = μ j) (ho : ∀ j b, j ≠ k → owns (μ j) b → ((S' b ↔ S b) ∧ w'.heap[b]? = w.heap[b]?) ∧ ¬ owns (μ' k) b)
    (hlt : ∀ b, owns (μ' k) b → b < w'.heap.size) (hslt : ∀ b, S' b → b < w'.heap.size) : StoRep μ' S' w' σ' where
  blk j b hj := by
    rw [hσ] at hj
    split at hj
    · subst_vars; cases hj; exact hx
    · rename_i hne
      exact (h.blk j b hj).mono hk hS hm (hμ j (Ne.symm hne)) (fun b hb => (ho j b (Ne.symm hne) hb).1)
  dom j hj := by
    rw [hσ] at hj
    split at hj
    · cases hj
    · rename_i hne; rw [hμ j (Ne.symm hne)]; exact h.dom j hj
  inj i j b hi hj := by
    by_cases e1 : i = k
    · by_cases e2 : j = k
      · rw [e1, e2]
      · rw [hμ j e2] at hj; rw [e1] at hi; exact absurd hi (ho j b e2 hj).2
    · rw [hμ i e1] at hi
      by_cases e2 : j = k
      · rw [e2] at hj; exact absurd hj (ho i b e1 hi).2
      · rw [hμ j e2] at hj; exact h.inj i j b hi hj
  lt j b hj := by
    by_cases e1 : j = k
    · rw [e1] at hj; exact hlt b hj
    · rw [hμ j e1] at hj; exact Nat.lt_of_lt_of_le (h.lt j b hj) hz
  slt := hslt

theorem rep_cell {p : PV} {v : Value} (h : Rep S w p v) (hc : p.isCell = true) : v.oneCell' = true ∧ v.cells = #[v] := by
  cases h <;> first | (simp [PV.isCell] at hc; done) | exact ⟨rfl, rfl⟩ | skip
  rename_i h
  cases v <;> first | exact ⟨rfl, rfl⟩ | (simp [Value.flat] at h; done)
theorem repA_cell {x : AV} {v : Value} (h : RepA μ S w x v) (hc : x.isCell = true) : v.oneCell' = true ∧ v.cells = #[v] := by
  cases h with
  | bot => simp [AV.isCell] at hc
  | pv h => exact rep_cell h hc
  | ms h => obtain ⟨a, c, rfl, _⟩ := h.stale; exact ⟨rfl, rfl⟩
  | rp h => obtain ⟨b, o, rfl⟩ := h.stale; exact ⟨rfl, rfl⟩
  | bp h => obtain ⟨b, o, rfl⟩ := h.stale; exact ⟨rfl, rfl⟩
  | mm h => obtain ⟨a, rfl⟩ := h.stale; exact ⟨rfl, rfl⟩
  | agg => simp [AV.isCell] at hc
  | tuple => simp [AV.isCell] at hc
  | fn => exact ⟨rfl, rfl⟩
  | nilq h => exact ⟨rfl, rfl⟩
  | yl h => obtain ⟨l, rfl⟩ := h.stale; exact ⟨rfl, rfl⟩
  | gp => exact ⟨rfl, rfl⟩

theorem rep_cells {p : PV} {v : Value} (h : Rep S w p v) (ha : p.cells.all PV.isCell = true) : p.cells.length = v.cells.size ∧ ∀ (j : Nat) (q : PV) (u : Value), p.cells[j]? = some q → v.cells[j]? = some u → Rep S w q u := by
  by_cases hc : p.isCell = true
  · have e := (rep_cell h hc).2
    have e2 : p.cells = [p] := by cases p <;> first | rfl | (simp [PV.isCell] at hc; done)
    rw [e, e2]
    refine ⟨rfl, fun j q u h1 h2 => ?_⟩
    cases j with
    | zero => simp at h1 h2; subst h1; subst h2; exact h
    | succ j => simp at h1
  · cases h with
    | agg hl hr => exact ⟨by simpa [PV.cells, Value.cells] using hl, fun j q u h1 h2 => hr j q u h1 (by simpa [Value.cells] using h2)⟩
    | tuple => simp [PV.cells, PV.isCell] at ha
    | lit => simp [PV.isCell] at hc
    | _ => simp [PV.isCell] at hc

theorem repA_cells {x : AV} {v : Value} (h : RepA μ S w x v) (ha : x.cells.all AV.isCell = true) : x.cells.length = v.cells.size ∧ ∀ (j : Nat) (q : AV) (u : Value), x.cells[j]? = some q → v.cells[j]? = some u → RepA μ S w q u := by
  cases h with
  | @pv p v h =>
    have ha' : p.cells.all PV.isCell = true := by simpa [AV.cells, List.all_map, Function.comp_def, AV.isCell] using ha
    obtain ⟨h1, h2⟩ := rep_cells h ha'
    refine ⟨by simpa [AV.cells] using h1, fun j q u h3 h4 => ?_⟩
    simp only [AV.cells, List.getElem?_map, Option.map_eq_some_iff] at h3
    obtain ⟨q', h3, rfl⟩ := h3
    exact .pv (h2 j q' u h3 h4)
  | agg hl hr => exact ⟨by simpa [AV.cells, Value.cells] using hl, fun j q u h1 h2 => hr j q u h1 (by simpa [Value.cells] using h2)⟩
  | bot => simp [AV.cells, AV.isCell] at ha
  | tuple => simp [AV.cells, AV.isCell] at ha
  | ms h => 
    have e := (repA_cell (RepA.ms (μ := μ) (S := S) (w := w) h) rfl).2
    rw [e]
    refine ⟨rfl, fun j q u h1 h2 => ?_⟩
    cases j with
    | zero => simp [AV.cells] at h1 h2; subst h1; subst h2; exact .ms h
    | succ j => simp [AV.cells] at h1
  | gp =>
    refine ⟨rfl, fun j q u h1 h2 => ?_⟩
    cases j with
    | zero => simp [AV.cells, Value.cells] at h1 h2; subst h1; subst h2; exact .gp
    | succ j => simp [AV.cells] at h1
  | yl h => 
    have e := (repA_cell (RepA.yl (μ := μ) (S := S) (w := w) h) rfl).2
    rw [e]
    refine ⟨rfl, fun j q u h1 h2 => ?_⟩
    cases j with
    | zero => simp [AV.cells] at h1 h2; subst h1; subst h2; exact .yl h
    | succ j => simp [AV.cells] at h1
  | rp h => 
    have e := (repA_cell (RepA.rp (μ := μ) (S := S) (w := w) h) rfl).2
    rw [e]
    refine ⟨rfl, fun j q u h1 h2 => ?_⟩
    cases j with
    | zero => simp [AV.cells] at h1 h2; subst h1; subst h2; exact .rp h
    | succ j => simp [AV.cells] at h1
  | bp h => 
    have e := (repA_cell (RepA.bp (μ := μ) (S := S) (w := w) h) rfl).2
    rw [e]
    refine ⟨rfl, fun j q u h1 h2 => ?_⟩
    cases j with
    | zero => simp [AV.cells] at h1 h2; subst h1; subst h2; exact .bp h
    | succ j => simp [AV.cells] at h1
  | mm h => 
    have e := (repA_cell (RepA.mm (μ := μ) (S := S) (w := w) h) rfl).2
    rw [e]
    refine ⟨rfl, fun j q u h1 h2 => ?_⟩
    cases j with
    | zero => simp [AV.cells] at h1 h2; subst h1; subst h2; exact .mm h
    | succ j => simp [AV.cells] at h1
  | fn hl hr hl' hr' =>
    refine ⟨rfl, fun j q u h1 h2 => ?_⟩
    cases j with
    | zero => simp [AV.cells, Value.cells] at h1 h2; subst h1; subst h2; exact .fn hl hr hl' hr'
    | succ j => simp [AV.cells] at h1
  | nilq h =>
    refine ⟨rfl, fun j q u h1 h2 => ?_⟩
    cases j with
    | zero => simp [AV.cells, Value.cells] at h1 h2; subst h1; subst h2; exact .nilq h
    | succ j => simp [AV.cells] at h1

/-! ### Values as they stand -/
theorem mapR_spec {f : AV → Option (PV × List Nat)} : ∀ {xs : List AV} {ps : List PV} {ks : List Nat}, mapR f xs = some (ps, ks) →
    xs.length = ps.length ∧ ∀ (j : Nat) (x : AV) (p : PV), xs[j]? = some x → ps[j]? = some p → ∃ l, f x = some (p, l) ∧ ∀ k ∈ l, k ∈ ks
  | [], ps, ks, h => by simp [mapR] at h; obtain ⟨rfl, rfl⟩ := h; exact ⟨rfl, fun j x p h => by simp at h⟩
  | y :: r, ps, ks, h => by
    simp only [mapR] at h
    split at h
    · rename_i p l ps' ks' h1 h2
      simp only [Option.some.injEq, Prod.mk.injEq] at h
      obtain ⟨rfl, rfl⟩ := h
      obtain ⟨e, h3⟩ := mapR_spec h2
      refine ⟨by simp [e], fun j x q hx hq => ?_⟩
      cases j with
      | zero => simp at hx hq; subst hx; subst hq; exact ⟨l, h1, fun k hk => List.mem_append_left _ hk⟩
      | succ j =>
        simp at hx hq
        obtain ⟨l', h4, h5⟩ := h3 j x q hx hq
        exact ⟨l', h4, fun k hk => List.mem_append_right _ (h5 k hk)⟩
    · cases h

theorem resolve_sound (hσ : StoRep μ S w σ) (hS : ∀ b, S b → S' b) : ∀ (n : Nat) (x : AV) (v : Value) (p : PV) (ks : List Nat), RepA μ S w x v → resolve σ n x = some (p, ks) →
    (∀ k ∈ ks, ∀ b, owns (μ k) b → S' b) → Rep S' w p v := by
  intro n
  induction n with
  | zero => intro x v p ks _ h; simp [resolve] at h
  | succ n ih =>
    have lists : ∀ {xs : List AV} {vs : List Value} {ps : List PV} {ks : List Nat}, xs.length = vs.length → (∀ (j : Nat) (q : AV) (v : Value), xs[j]? = some q → vs[j]? = some v → RepA μ S w q v) →
        mapR (resolve σ n) xs = some (ps, ks) → (∀ k ∈ ks, ∀ b, owns (μ k) b → S' b) → ps.length = vs.length ∧ ∀ (j : Nat) (q : PV) (v : Value), ps[j]? = some q → vs[j]? = some v → Rep S' w q v := by
      intro xs vs ps ks hl hr h hks
      obtain ⟨e, h2⟩ := mapR_spec h
      refine ⟨e.symm.trans hl, fun j q v hq hv => ?_⟩
      have hj : j < xs.length := by rw [e]; exact (List.getElem?_eq_some_iff.1 hq).1
      obtain ⟨l, h3, h4⟩ := h2 j _ q (List.getElem?_eq_getElem hj) hq
      exact ih _ v q l (hr j _ v (List.getElem?_eq_getElem hj) hv) h3 (fun k hk => hks k (h4 k hk))
    intro x v p ks hx h hks
    cases hx with
    | bot => simp [resolve] at h
    | nilq => simp [resolve] at h
    | yl => simp [resolve] at h
    | @gp g off =>
      simp only [resolve] at h
      split at h
      · rename_i g' cs he
        split at h
        · rename_i e
          subst e
          simp only [Option.some.injEq, Prod.mk.injEq] at h
          obtain ⟨rfl, rfl⟩ := h
          obtain ⟨_, hr⟩ := hσ.blk _ _ he
          generalize hv : (Value.pointer (some ⟨g', 0, none⟩)) = v0 at hr
          have hr' := hr.mono (S' := S') (w' := w) hS (fun _ _ => rfl)
          cases hr' with
          | @ip _ _ b o f h1 h2 h3 =>
            simp only [Nat.add_zero, Value.pointer.injEq, Option.some.injEq, Addr.mk.injEq, and_true] at hv
            obtain ⟨rfl, rfl⟩ := hv
            have := Rep.ip (off := off) f h1 h2 h3
            simpa using this
        · cases h
      · cases h
    | pv hp => simp [resolve] at h; obtain ⟨rfl, rfl⟩ := h; exact hp.mono hS (fun _ _ => rfl)
    | @ms k off len own v hm =>
      simp only [resolve] at h
      split at h
      · rename_i live e s es he
        · obtain ⟨hle, h⟩ := own_piece (f := fun l => (PV.sl false l, [k])) hσ he hm h
          simp only [Prod.mk.injEq] at h
          obtain ⟨rfl, rfl⟩ := h
          rcases hσ.blk k _ he with ⟨h1, h2⟩ | ⟨b, cap, cur, hμ, hl, hh, h1, h2, h3, hc⟩
          · rw [h2] at hm
            obtain ⟨rfl, rfl, a, rfl⟩ := hm
            subst h1
            exact .sl (es := []) 0 (fun _ _ => undef) (Nat.zero_le _) (Nat.le_refl _) (fun h => by cases h) (fun i p h => by simp at h) (fun i p j q h => by simp at h) (fun i p j q h => by simp at h)
          · rw [hμ] at hm
            obtain ⟨a, c, rfl, hlc, ha, _⟩ := hm
            have hSb : S' b := hks k (by simp) b (by rw [hμ]; rfl)
            have len' : ((es.drop off).take len).length = len := by rw [List.length_take, List.length_drop]; omega
            have cellOf : ∀ (i : Nat) (p : PV) (j : Nat) (q : PV), ((es.drop off).take len)[i]? = some p → p.cells[j]? = some q → ∃ u, cur[(off + i) * s + j]? = some u ∧ Rep S w q u := by
              intro i p j q hp hq
              rw [List.getElem?_take] at hp
              split at hp
              · rw [List.getElem?_drop] at hp
                obtain ⟨e1, h4⟩ := hc _ p hp
                have hlt : off + i < es.length := (List.getElem?_eq_some_iff.1 hp).1
                have hj : j < s := by rw [← e1]; exact (List.getElem?_eq_some_iff.1 hq).1
                have hin : (off + i) * s + j < cur.size := by
                  rw [h3]
                  calc (off + i) * s + j < (off + i) * s + s := by omega
                    _ = (off + i + 1) * s := by rw [Nat.add_mul (off + i) 1 s]; omega
                    _ ≤ cap * s := Nat.mul_le_mul_right _ (by omega)
                exact ⟨cur[(off + i) * s + j], Array.getElem?_eq_getElem hin, h4 j q _ hq (Array.getElem?_eq_getElem hin)⟩
              · cases hp
            have key := Rep.sl (S := S') (w := w) (full := false) (es := (es.drop off).take len) (a := a) (cap := c) s (fun i j => (cur[(off + i) * s + j]?).getD undef) (by rw [len']; omega) (by rw [len']; exact hlc) (fun h => by cases h)
              (fun i p hp => by
                rw [List.getElem?_take] at hp
                split at hp
                · rw [List.getElem?_drop] at hp; exact (hc _ p hp).1
                · cases hp)
              (fun i p j q hp hq => by
                obtain ⟨u, hu, _⟩ := cellOf i p j q hp hq
                have hi : i < len := by
                  have := (List.getElem?_eq_some_iff.1 hp).1
                  omega
                have hc0 : c ≠ 0 := by omega
                refine ⟨b, off * s, ha.resolve_left hc0, hSb, ?_⟩
                have e : off * s + (i * s + j) = (off + i) * s + j := by rw [Nat.add_mul]; omega
                rw [e]
                simp [World.cell?, hh, hu])
              (fun i p j q hp hq => by
                obtain ⟨u, hu, hr⟩ := cellOf i p j q hp hq
                rw [hu]
                exact hr.mono hS (fun _ _ => rfl))
            rw [len'] at key
            exact key
      · cases h
    | @rp k i off v hm =>
      simp only [resolve] at h
      split at h
      · rename_i live e s es he
        split at h
        · rename_i p0 hp0
          simp only [Option.some.injEq, Prod.mk.injEq] at h
          obtain ⟨rfl, rfl⟩ := h
          rcases hσ.blk k _ he with ⟨h1, h2⟩ | ⟨b, cap, cur, hμ, hl, hh, h1, h2, h3, hc⟩
          · rw [h2] at hm; exact hm.elim
          · rw [hμ] at hm
            obtain rfl : v = _ := hm
            have hSb : S' b := hks k (by simp) b (by rw [hμ]; rfl)
            obtain ⟨e1, h4⟩ := hc i p0 hp0
            have hlt : i < es.length := (List.getElem?_eq_some_iff.1 hp0).1
            have hin : ∀ j, j < s → i * s + j < cur.size := fun j hj => by
              rw [h3]
              calc i * s + j < i * s + s := by omega
                _ = (i + 1) * s := by rw [Nat.add_mul i 1 s]; omega
                _ ≤ cap * s := Nat.mul_le_mul_right _ (by omega)
            exact .ip (fun j => (cur[i * s + j]?).getD undef) hSb
              (fun j q hq => by
                have hj : j < s := by rw [← e1]; exact (List.getElem?_eq_some_iff.1 hq).1
                simp [World.cell?, hh, Array.getElem?_eq_getElem (hin j hj)])
              (fun j q hq => by
                have hj : j < s := by rw [← e1]; exact (List.getElem?_eq_some_iff.1 hq).1
                rw [Array.getElem?_eq_getElem (hin j hj)]
                exact (h4 j q _ hq (Array.getElem?_eq_getElem (hin j hj))).mono hS (fun _ _ => rfl))
        · cases h
      · cases h
    | @bp k off v hm =>
      simp only [resolve] at h
      split at h
      · rename_i live cs he
        split at h
        · rename_i ps l hps
          simp only [Option.some.injEq, Prod.mk.injEq] at h
          obtain ⟨rfl, rfl⟩ := h
          obtain ⟨b, cur, t, hμ, hl, hh, hsz, hc⟩ := hσ.blk k _ he
          rw [hμ] at hm
          obtain rfl : v = _ := hm
          have hSb : S' b := hks k (by simp) b (by rw [hμ]; rfl)
          obtain ⟨e1, h4⟩ := lists (vs := cur.toList) (by simpa using hsz.symm) (fun j q u h1 h2 => hc j q u h1 (by simpa using h2)) hps (fun k' hk' => hks k' (List.mem_cons_of_mem _ hk'))
          have := Rep.ip (S := S') (w := w) (cs := ps) (off := off) (b := b) (o := 0) (fun j => (cur[j]?).getD undef) hSb
            (fun j q hq => by
              have hj : j < cur.size := by
                have := (List.getElem?_eq_some_iff.1 hq).1
                simp at e1; omega
              simp [World.cell?, hh, Array.getElem?_eq_getElem hj])
            (fun j q hq => by
              have hj : j < cur.size := by
                have := (List.getElem?_eq_some_iff.1 hq).1
                simp at e1; omega
              rw [Array.getElem?_eq_getElem hj]
              exact h4 j q _ hq (by simp [hj]))
          simpa using this
        · cases h
      · cases h
    | @mm k v hm =>
      simp only [resolve] at h
      split at h
      · rename_i live es he
        simp only [Option.some.injEq, Prod.mk.injEq] at h
        obtain ⟨rfl, rfl⟩ := h
        obtain ⟨b, ents, clk, hμ, hl, hh, hsz, hc⟩ := hσ.blk k _ he
        rw [hμ] at hm
        obtain rfl : v = _ := hm
        exact .map (hks k (by simp) b (by rw [hμ]; rfl)) hh hsz (fun i e m h1 h2 => (hc i e m h1 h2).1) (fun i e m h1 h2 => (hc i e m h1 h2).2.mono hS (fun _ _ => rfl))
      · cases h
    | agg hl hr =>
      simp only [resolve] at h
      split at h
      · rename_i ps l hps
        simp only [Option.some.injEq, Prod.mk.injEq] at h
        obtain ⟨rfl, rfl⟩ := h
        obtain ⟨e1, h4⟩ := lists hl hr hps hks
        exact .agg e1 h4
      · cases h
    | tuple hl hr =>
      simp only [resolve] at h
      split at h
      · rename_i ps l hps
        simp only [Option.some.injEq, Prod.mk.injEq] at h
        obtain ⟨rfl, rfl⟩ := h
        obtain ⟨e1, h4⟩ := lists hl hr hps hks
        exact .tuple e1 h4
      · cases h
    | fn hl hr hl' hr' =>
      simp only [resolve] at h
      split at h
      · rename_i ps l qs l' hps hqs
        simp only [Option.some.injEq, Prod.mk.injEq] at h
        obtain ⟨rfl, rfl⟩ := h
        obtain ⟨e1, h4⟩ := lists hl hr hps (fun k hk => hks k (List.mem_append_left _ hk))
        obtain ⟨e2, h5⟩ := lists hl' hr' hqs (fun k hk => hks k (List.mem_append_right _ hk))
        exact .fn e1 h4 e2 h5
      · cases h
end Go.Mir
