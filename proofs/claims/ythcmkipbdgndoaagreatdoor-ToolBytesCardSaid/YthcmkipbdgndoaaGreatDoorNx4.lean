/- What each operation does to memory, and what its plain value stands for (lemmas; conditions: what they say). -/
import Derived.Test.YthcmkipbdgndoaaGreatDoorNx3
set_option linter.all false
set_option linter.unusedVariables false
set_option linter.unusedSimpArgs false
set_option linter.unnecessarySimpa false
namespace Go.Mir
open Go Go.RowKit
variable {P : Program} {μ μ' : Nat → Option KS} {S S' : Nat → Prop} {w w' : World} {σ σ' : Store}

theorem lk_applyMem_freeze (ks : List Nat) (σ : Store) : ∀ (σ' : Store) (j : Nat), lk (applyMem σ' (freezeE σ ks)) j = if j ∈ ks then (match lk σ j with | some b => some b.freeze | none => lk σ' j) else lk σ' j := by
  induction ks with
  | nil => intro σ' j; simp [freezeE, applyMem]
  | cons k ks ih =>
    intro σ' j
    simp only [freezeE]
    cases e : lk σ k with
    | none =>
      simp only
      rw [ih]
      by_cases h1 : j = k
      · subst h1; simp [e]
      · simp [h1]
    | some b =>
      simp only [applyMem]
      rw [ih, lk_ins]
      by_cases h1 : j = k
      · subst h1; simp [e]
      · simp [h1, Ne.symm h1]

theorem applyMem_append (a b : List (Nat × Blk)) : ∀ σ : Store, applyMem σ (a ++ b) = applyMem (applyMem σ a) b := by
  induction a with
  | nil => intro σ; rfl
  | cons x r ih => intro σ; obtain ⟨k, y⟩ := x; exact ih _

noncomputable def frozenBy (μ : Nat → Option KS) (S : Nat → Prop) (ks : List Nat) : Nat → Prop := fun b => S b ∨ ∃ k ∈ ks, owns (μ k) b

theorem freeze_ok (h : StoRep μ S w σ) (ks : List Nat) : StoRep μ (frozenBy μ S ks) w (applyMem σ (freezeE σ ks)) ∧ Ext μ S w μ (frozenBy μ S ks) w := by
  have hl : ∀ j, lk (applyMem σ (freezeE σ ks)) j = if j ∈ ks then (lk σ j).map Blk.freeze else lk σ j := by
    intro j; rw [lk_applyMem_freeze]; split <;> cases lk σ j <;> rfl
  refine ⟨⟨fun k b hb => ?_, fun k hk => ?_, h.inj, h.lt, ?_⟩, ⟨KeysOk.refl μ, fun b hb => .inl hb, fun _ _ => rfl, fun _ _ _ => rfl, fun k b hk => .inl ⟨k, hk⟩, ?_, Nat.le_refl _, rfl, rfl, rfl⟩⟩
  · rw [hl] at hb
    split at hb
    · rename_i hk
      cases e : lk σ k with
      | none => rw [e] at hb; cases hb
      | some x =>
        rw [e] at hb
        cases hb
        have hx := h.blk k x e
        cases x with
        | stale => exact hx
        | gl g cs => exact ⟨hx.1, hx.2.mono (fun b hb => .inl hb) (fun _ _ => rfl)⟩
        | box live cs =>
          obtain ⟨b, cur, t, hμ, hl, hh, hsz, hc⟩ := hx
          exact ⟨b, cur, t, hμ, ⟨fun _ => rfl, fun _ => .inr ⟨k, hk, by rw [hμ]; rfl⟩⟩, hh, hsz, fun j x v h1 h2 => (hc j x v h1 h2).mono (KeysOk.refl μ) (fun b hb => .inl hb) (fun _ _ => rfl)⟩
        | row live t s es =>
          rcases hx with h0 | ⟨b, cap, cur, hμ, hl, hh, h1, h2, h3, hc⟩
          · exact .inl h0
          · exact .inr ⟨b, cap, cur, hμ, ⟨fun _ => rfl, fun _ => .inr ⟨k, hk, by rw [hμ]; rfl⟩⟩, hh, h1, h2, h3, fun i p hp => ⟨(hc i p hp).1, fun j q v h4 h5 => ((hc i p hp).2 j q v h4 h5).mono (fun b hb => .inl hb) (fun _ _ => rfl)⟩⟩
        | map live es =>
          obtain ⟨b, ents, clk, hμ, hl, hh, hsz, hc⟩ := hx
          exact ⟨b, ents, clk, hμ, ⟨fun _ => rfl, fun _ => .inr ⟨k, hk, by rw [hμ]; rfl⟩⟩, hh, hsz, fun i x m h1 h2 => ⟨(hc i x m h1 h2).1, (hc i x m h1 h2).2.mono (fun b hb => .inl hb) (fun _ _ => rfl)⟩⟩
        | fmap live es =>
          obtain ⟨b, ents, clk, hμ, hl, hh, hsz, hc⟩ := hx
          exact ⟨b, ents, clk, hμ, ⟨fun _ => rfl, fun _ => .inr ⟨k, hk, by rw [hμ]; rfl⟩⟩, hh, hsz, fun i x m h1 h2 => ⟨(hc i x m h1 h2).1, (hc i x m h1 h2).2.mono (KeysOk.refl μ) (fun b hb => .inl hb) (fun _ _ => rfl)⟩⟩
        | it live s pos =>
          obtain ⟨b, hμ, hl, hh⟩ := hx
          exact ⟨b, hμ, ⟨fun _ => rfl, fun _ => .inr ⟨k, hk, by rw [hμ]; rfl⟩⟩, hh⟩
        | lp live busy pend =>
          obtain ⟨l, tmps, ps, as, body, rec, hμ, hl, hh, hr⟩ := hx
          exact ⟨l, tmps, ps, as, body, rec, hμ, ⟨fun _ => rfl, fun _ => .inr ⟨k, hk, by rw [hμ]; rfl⟩⟩, hh, hr⟩
    · rename_i hk
      refine (h.blk k b hb).mono (KeysOk.refl μ) (fun b hb => .inl hb) (fun _ _ => rfl) rfl (fun b' hb' => ⟨⟨fun h' => ?_, fun h' => .inl h'⟩, rfl⟩)
      rcases h' with h' | ⟨k', hk', ho⟩
      · exact h'
      · exact absurd (h.inj k k' b' hb' ho ▸ hk') hk
  · rw [hl] at hk
    split at hk
    · cases e : lk σ k with
      | none => exact h.dom k e
      | some x => rw [e] at hk; cases hk
    · exact h.dom k hk
  · intro b hb
    rcases hb with hb | ⟨k, _, ho⟩
    · exact h.slt b hb
    · exact h.lt k b ho
  · intro b hb
    rcases hb with hb | ⟨k, _, ho⟩
    · exact .inl hb
    · exact .inr (.inl ⟨k, ho⟩)

noncomputable def updK (μ : Nat → Option KS) (k : Nat) (m : KS) : Nat → Option KS := fun j => if j = k then some m else μ j
theorem updK_same (k : Nat) (m : KS) : updK μ k m k = some m := by simp [updK]
theorem updK_ne {k j : Nat} (h : j ≠ k) (m : KS) : updK μ k m j = μ j := by simp [updK, h]
theorem keysOk_new {k : Nat} (h : μ k = none) (m : KS) : KeysOk μ (updK μ k m) := fun j x hj => by
  by_cases e : j = k
  · rw [e, h] at hj; cases hj
  · exact .inl (by rw [updK_ne e]; exact hj)

theorem alloc_ok (h : StoRep μ S w σ) {k : Nat} (hk : lk σ k = none) {m : KS} (hm : ∀ b, owns (some m) b → b = w.heap.size) {x : Blk} {o : Obj} (hx : BlkRep (updK μ k m) S (w.alloc o) k x) :
    StoRep (updK μ k m) S (w.alloc o) (ins k x σ) ∧ Ext μ S w (updK μ k m) S (w.alloc o) := by
  have hz : w.heap.size ≤ (w.alloc o).heap.size := by simp
  have old : ∀ b, b < w.heap.size → (w.alloc o).heap[b]? = w.heap[b]? := fun b hb => heap_alloc_old w o b hb
  refine ⟨h.upd (keysOk_new (h.dom k hk) m) (fun _ hb => hb) (fun b hb => old b (h.slt b hb)) hz k x (fun j => lk_ins k j x σ) hx (fun j hj => updK_ne hj m) (fun j b hj ho => ⟨⟨Iff.rfl, old b (h.lt j b ho)⟩, fun ho' => ?_⟩) (fun b hb => ?_) (fun b hb => Nat.lt_of_lt_of_le (h.slt b hb) hz), ⟨keysOk_new (h.dom k hk) m, fun _ hb => hb, fun b hb => old b (h.slt b hb), fun b hb _ => old b hb, fun j b hj => ?_, fun b hb => .inl hb, hz, rfl, rfl, rfl⟩⟩
  · rw [updK_same] at ho'
    have := hm b ho'
    have := h.lt j b ho
    omega
  · rw [updK_same] at hb
    have := hm b hb
    simp; omega
  · by_cases e : j = k
    · rw [e, updK_same] at hj; exact .inr (by have := hm b hj; omega)
    · rw [updK_ne e] at hj; exact .inl ⟨j, hj⟩

/-- A store into a live block. -/
theorem write_ok (h : StoRep μ S w σ) {k b : Nat} (ho : owns (μ k) b) (hl : ¬ S b) {x : Blk} (cs : Array Value) (hx : BlkRep μ S (w.setRow b cs) k x) :
    StoRep μ S (w.setRow b cs) (ins k x σ) ∧ Ext μ S w μ S (w.setRow b cs) := by
  have ne : ∀ c, c ≠ b → (w.setRow b cs).heap[c]? = w.heap[c]? := fun c hc => setRow_other w b c cs hc
  have neS : ∀ c, S c → c ≠ b := fun c hc e => hl (e ▸ hc)
  refine ⟨h.upd (KeysOk.refl μ) (fun _ hb => hb) (fun c hc => ne c (neS c hc)) (by simp) k x (fun j => lk_ins k j x σ) hx (fun j _ => rfl) (fun j c hj hoj => ⟨⟨Iff.rfl, ne c fun e => ?_⟩, fun ho' => ?_⟩) (fun c hc => by simpa using h.lt k c hc) (fun c hc => by simpa using h.slt c hc), ⟨KeysOk.refl μ, fun _ hb => hb, fun c hc => ne c (neS c hc), fun c hc hn => ne c fun e => hn k (e ▸ ho), fun j c hj => .inl ⟨j, hj⟩, fun c hc => .inl hc, by simp, rfl, rfl, rfl⟩⟩
  · subst e; exact hj (h.inj j k c hoj ho)
  · exact hj (h.inj j k c hoj ho')

/-! ### Pieces -/
theorem val?_run {α : Type} {s : Sem α} {a : α} (h : s.val? P = some a) (w : World) : s.run P w = .ok a w := by
  induction s with
  | pure b => simp [Sem.val?] at h; subst h; rfl
  | program k ih => exact ih P h
  | _ => simp [Sem.val?] at h

theorem sz_run {t : TypeId} {n : Nat} (h : sz P t = some n) (w : World) : (sizeOf t).run P w = .ok n w := by
  simp only [sz, Option.map_eq_some_iff] at h
  obtain ⟨i, h1, h2⟩ := h
  simp [sizeOf, typeInfo, h1, h2]
theorem zr_run {t : TypeId} {p : PV} (h : zr P t = some p) : ∃ (i : TypeInfo) (v : Value), P.info? t = some i ∧ i.zero = some v ∧ PV.ofValue v = some p ∧ ∀ w, (zeroValue t).run P w = .ok v w := by
  unfold zr at h
  split at h
  · rename_i i hi
    split at h
    · rename_i v hv
      exact ⟨i, v, hi, hv, h, fun w => by simp [zeroValue, typeInfo, hi, hv]⟩
    · cases h
  · cases h
theorem isAgg_run {t : TypeId} {b : Bool} (h : isAggT P t = some b) (w : World) : (isAgg t).run P w = .ok b w := by
  unfold isAggT at h
  split at h
  · rename_i h1; cases h; simp [isAgg, run_underlying h1]
  · rename_i h1; cases h; simp [isAgg, run_underlying h1]
  · rename_i d h1 h2 h3; cases h
    simp only [isAgg, Sem.run_bind, run_underlying h3, Result.andThen_ok]
    cases d <;> first | rfl | (exfalso; first | exact h1 _ h3 | exact h2 _ _ h3)
  · cases h

theorem ofCell_rep {v : Value} {p : PV} (h : PV.ofCell v = some p) : Rep S w p v ∧ p.isCell = true := by
  unfold PV.ofCell at h
  split at h
  · cases h
    exact ⟨.sl (es := []) 0 (fun _ _ => undef) (Nat.zero_le _) (Nat.le_refl _) (fun _ => rfl) (fun i p h => by simp at h) (fun i p j q h => by simp at h) (fun i p j q h => by simp at h), rfl⟩
  · split at h
    · rename_i hf; cases h; exact ⟨.lit hf, rfl⟩
    · cases h
theorem ofCells_rep : ∀ {vs : List Value} {ps : List PV}, PV.ofCells vs = some ps → ps.length = vs.length ∧ (∀ (j : Nat) (q : PV) (v : Value), ps[j]? = some q → vs[j]? = some v → Rep S w q v) ∧ ps.all PV.isCell = true
  | [], ps, h => by simp [PV.ofCells] at h; subst h; exact ⟨rfl, fun j q v h => by simp at h, rfl⟩
  | v :: r, ps, h => by
    simp only [PV.ofCells] at h
    split at h
    · rename_i p ps' h1 h2
      cases h
      obtain ⟨e, h3, h4⟩ := ofCells_rep h2
      refine ⟨by simp [e], fun j q u hq hu => ?_, by simp [h4, (ofCell_rep (S := S) (w := w) h1).2]⟩
      cases j with
      | zero => simp at hq hu; subst hq; subst hu; exact (ofCell_rep h1).1
      | succ j => simp at hq hu; exact h3 j q u hq hu
    · cases h
theorem ofValue_rep {v : Value} {p : PV} (h : PV.ofValue v = some p) : Rep S w p v ∧ p.cells.all PV.isCell = true := by
  unfold PV.ofValue at h
  split at h
  · rename_i cs
    simp only [Option.map_eq_some_iff] at h
    obtain ⟨ps, h1, rfl⟩ := h
    obtain ⟨e, h3, h4⟩ := ofCells_rep (S := S) (w := w) h1
    have := Rep.agg (S := S) (w := w) e h3
    exact ⟨by simpa using this, by simpa [PV.cells] using h4⟩
  · obtain ⟨h1, h2⟩ := ofCell_rep (S := S) (w := w) h
    refine ⟨h1, ?_⟩
    cases p <;> first | simpa [PV.cells] using h2 | (simp [PV.isCell] at h2)

theorem allPV_spec : ∀ {xs : List AV} {ps : List PV}, allPV xs = some ps → xs = ps.map .pv
  | [], ps, h => by simp [allPV] at h; subst h; rfl
  | x :: r, ps, h => by
    cases x <;> simp only [allPV] at h <;> try cases h
    split at h
    · rename_i ps' h1; cases h; rw [allPV_spec h1]; rfl
    · cases h

theorem rep_of_pvs {ps : List PV} {vs : List Value} (hr : ∀ (j : Nat) (q : AV) (v : Value), (ps.map AV.pv)[j]? = some q → vs[j]? = some v → RepA μ S w q v) : ∀ (j : Nat) (q : PV) (v : Value), ps[j]? = some q → vs[j]? = some v → Rep S w q v := by
  intro j q v hq hv
  have := hr j (.pv q) v (by simp [hq]) hv
  cases this; assumption

theorem mkAgg_rep {cs : List AV} {vs : List Value} (hl : cs.length = vs.length) (hr : ∀ (j : Nat) (q : AV) (v : Value), cs[j]? = some q → vs[j]? = some v → RepA μ S w q v) : RepA μ S w (AV.mkAgg cs) (.agg vs.toArray) := by
  unfold AV.mkAgg
  split
  · rename_i ps h
    rw [allPV_spec h] at hl hr
    exact .pv (.agg (by simpa using hl) (rep_of_pvs hr))
  · exact .agg hl hr
theorem mkTuple_rep {cs : List AV} {vs : List Value} (hl : cs.length = vs.length) (hr : ∀ (j : Nat) (q : AV) (v : Value), cs[j]? = some q → vs[j]? = some v → RepA μ S w q v) : RepA μ S w (AV.mkTuple cs) (.tuple vs.toArray) := by
  unfold AV.mkTuple
  split
  · rename_i ps h
    rw [allPV_spec h] at hl hr
    exact .pv (.tuple (by simpa using hl) (rep_of_pvs hr))
  · exact .tuple hl hr
theorem mkFn_rep {f : Fn} {as cs : List AV} {vs us : List Value} (hl : as.length = vs.length) (hr : ∀ (j : Nat) (q : AV) (v : Value), as[j]? = some q → vs[j]? = some v → RepA μ S w q v)
    (hl' : cs.length = us.length) (hr' : ∀ (j : Nat) (q : AV) (v : Value), cs[j]? = some q → us[j]? = some v → RepA μ S w q v) : RepA μ S w (AV.mkFn f as cs) (.func f vs.toArray us.toArray) := by
  unfold AV.mkFn
  split
  · rename_i ps qs h1 h2
    rw [allPV_spec h1] at hl hr
    rw [allPV_spec h2] at hl' hr'
    exact .pv (.fn (by simpa using hl) (rep_of_pvs hr) (by simpa using hl') (rep_of_pvs hr'))
  · exact .fn hl hr hl' hr'

theorem row_in {i j s cap : Nat} (hi : i < cap) (hj : j < s) : i * s + j < cap * s := by
  calc i * s + j < i * s + s := by omega
    _ = (i + 1) * s := by rw [Nat.add_mul i 1 s]; omega
    _ ≤ cap * s := Nat.mul_le_mul_right _ (by omega)

/-- A part of a row of cells. -/
theorem take_cells {α : Type} (cs : List α) (off n : Nat) (h : off + n ≤ cs.length) : ((cs.drop off).take n).length = n ∧ ∀ j, j < n → ((cs.drop off).take n)[j]? = cs[off + j]? := by
  refine ⟨by rw [List.length_take, List.length_drop]; omega, fun j hj => ?_⟩
  rw [List.getElem?_take, if_pos hj, List.getElem?_drop]

theorem readIp_ok {n : Nat} {v : Value} {cs0 : List PV} {off : Nat} (hp : Rep S w (.ip cs0 off) v) (hle : off + n ≤ cs0.length) :
    ∃ b o, v = .pointer (some ⟨b, o, none⟩) ∧ (((cs0.drop off).take n).map AV.pv).length = n ∧ ∃ vs : List Value, vs.length = n ∧ (∀ (j : Nat) (u : Value), vs[j]? = some u → w.cell? ((⟨b, o, none⟩ : Addr).add j) = some u) ∧ ∀ (j : Nat) (y : AV) (u : Value), (((cs0.drop off).take n).map AV.pv)[j]? = some y → vs[j]? = some u → RepA μ S w y u := by
  cases hp with
  | @ip _ _ b o f hS hc hr =>
    obtain ⟨l1, l2⟩ := take_cells cs0 off n hle
    refine ⟨b, o + off, rfl, by simpa using l1, (List.range n).map fun j => f (off + j), by simp, fun j u hu => ?_, fun j y u hy hu => ?_⟩
    · simp only [List.getElem?_map, Option.map_eq_some_iff] at hu
      obtain ⟨i, hi, rfl⟩ := hu
      have hj : j < n := by simpa using (List.getElem?_eq_some_iff.1 hi).1
      obtain rfl : i = j := by rw [List.getElem?_range hj] at hi; exact (Option.some.inj hi).symm
      rw [add_at, Nat.add_assoc]
      exact hc _ _ (List.getElem?_eq_getElem (show off + i < cs0.length by omega))
    · simp only [List.getElem?_map, Option.map_eq_some_iff] at hu
      obtain ⟨i, hi, rfl⟩ := hu
      have hj : j < n := by simpa using (List.getElem?_eq_some_iff.1 hi).1
      obtain rfl : i = j := by rw [List.getElem?_range hj] at hi; exact (Option.some.inj hi).symm
      rw [List.getElem?_map, l2 i hj, Option.map_eq_some_iff] at hy
      obtain ⟨q, hq, rfl⟩ := hy
      exact .pv (hr _ q hq)

/-- What a package variable's known cells are. -/
theorem gl_ip (hσ : StoRep μ S w σ) {g off : Nat} {cs : List PV} (h : lk σ (gk g) = some (.gl g cs)) : Rep S w (.ip cs off) (.pointer (some ⟨g, off, none⟩)) := by
  obtain ⟨_, hr⟩ := hσ.blk _ _ h
  generalize hv : (Value.pointer (some ⟨g, 0, none⟩)) = v0 at hr
  cases hr with
  | @ip _ _ b o f h1 h2 h3 =>
    simp only [Nat.add_zero, Value.pointer.injEq, Option.some.injEq, Addr.mk.injEq, and_true] at hv
    obtain ⟨rfl, rfl⟩ := hv
    have := Rep.ip (off := off) f h1 h2 h3
    simpa using this

theorem readCells_ok (hσ : StoRep μ S w σ) {n : Nat} {x : AV} {v : Value} {cs : List AV} {ks : List Nat} (hx : RepA μ S w x v) (h : readCells σ n x = some (cs, ks)) :
    ∃ b o, v = .pointer (some ⟨b, o, none⟩) ∧ cs.length = n ∧ ∃ vs : List Value, vs.length = n ∧ (∀ (j : Nat) (u : Value), vs[j]? = some u → w.cell? ((⟨b, o, none⟩ : Addr).add j) = some u) ∧ ∀ (j : Nat) (y : AV) (u : Value), cs[j]? = some y → vs[j]? = some u → RepA μ S w y u := by
  unfold readCells at h
  split at h
  · rename_i k off
    split at h
    · rename_i live cs0 he
      split at h
      · rename_i hle
        simp only [Option.some.injEq, Prod.mk.injEq] at h
        obtain ⟨rfl, rfl⟩ := h
        obtain ⟨b, cur, t, hμ, hl, hh, hsz, hc⟩ := hσ.blk k _ he
        cases hx with
        | bp hm =>
          rw [hμ] at hm
          obtain rfl : v = _ := hm
          obtain ⟨l1, l2⟩ := take_cells cs0 off n hle
          obtain ⟨m1, m2⟩ := take_cells cur.toList off n (by simp; omega)
          refine ⟨b, off, rfl, l1, (cur.toList.drop off).take n, m1, fun j u hu => ?_, fun j y u hy hu => ?_⟩
          · have hj : j < n := by rw [← m1]; exact (List.getElem?_eq_some_iff.1 hu).1
            rw [m2 j hj] at hu
            rw [add_at]
            simpa [World.cell?, hh] using hu
          · have hj : j < n := by rw [← m1]; exact (List.getElem?_eq_some_iff.1 hu).1
            rw [m2 j hj] at hu
            rw [l2 j hj] at hy
            exact hc _ y u hy (by simpa using hu)
      · cases h
    · cases h
  · rename_i k i off
    split at h
    · rename_i live e s es he
      split at h
      · rename_i p hp
        split at h
        · rename_i hle
          simp only [Option.some.injEq, Prod.mk.injEq] at h
          obtain ⟨rfl, rfl⟩ := h
          cases hx with
          | rp hm =>
            rcases hσ.blk k _ he with ⟨h1, h2⟩ | ⟨b, cap, cur, hμ, hl, hh, h1, h2, h3, hc⟩
            · rw [h2] at hm; exact hm.elim
            · rw [hμ] at hm
              obtain rfl : v = _ := hm
              obtain ⟨e1, h4⟩ := hc i p hp
              have hi : i < es.length := (List.getElem?_eq_some_iff.1 hp).1
              obtain ⟨l1, l2⟩ := take_cells p.cells off n hle
              have hin : i * s + off + n ≤ cur.toList.length := by
                have : i * s + s ≤ cap * s := by
                  have := Nat.mul_le_mul_right s (show i + 1 ≤ cap by omega)
                  rwa [Nat.add_mul i 1 s, Nat.one_mul] at this
                simp only [Array.length_toList, h3]
                omega
              obtain ⟨m1, m2⟩ := take_cells cur.toList (i * s + off) n hin
              refine ⟨b, i * s + off, rfl, by simpa using l1, (cur.toList.drop (i * s + off)).take n, m1, fun j u hu => ?_, fun j y u hy hu => ?_⟩
              · have hj : j < n := by rw [← m1]; exact (List.getElem?_eq_some_iff.1 hu).1
                rw [m2 j hj] at hu
                rw [add_at]
                simpa [World.cell?, hh] using hu
              · have hj : j < n := by rw [← m1]; exact (List.getElem?_eq_some_iff.1 hu).1
                rw [m2 j hj] at hu
                rw [List.getElem?_map, l2 j hj, Option.map_eq_some_iff] at hy
                obtain ⟨q, hq, rfl⟩ := hy
                exact .pv (h4 _ q u hq (by rw [← Nat.add_assoc]; simpa using hu))
        · cases h
      · cases h
    · cases h
  · rename_i cs0 off
    split at h
    · rename_i hle
      simp only [Option.some.injEq, Prod.mk.injEq] at h
      obtain ⟨rfl, rfl⟩ := h
      cases hx with
      | pv hp =>
        exact readIp_ok hp hle
    · cases h
  · rename_i g off
    split at h
    · rename_i g' cs0 he
      split at h
      · rename_i hc
        obtain ⟨rfl, hle⟩ := hc
        simp only [Option.some.injEq, Prod.mk.injEq] at h
        obtain ⟨rfl, rfl⟩ := h
        cases hx with
        | gp => exact readIp_ok (gl_ip hσ he) hle
      · cases h
    · cases h
  · cases h

theorem loadE_ok (hσ : StoRep μ S w σ) {t : TypeId} {x : AV} {v : Value} {e : Eff} (hx : RepA μ S w x v) (h : loadE P t σ x = some e) :
    ∃ u, (Instr.loadAt t v).run P w = .ok u w ∧ RepA μ S w e.val u ∧ e.mem = [] ∧ ∃ a, v = .pointer (some a) ∧ (loadVar t a).run P w = .ok u w := by
  unfold loadE at h
  split at h
  · rename_i n h1 h2
    split at h
    · rename_i cs ks hr
      cases h
      obtain ⟨b, o, rfl, l1, vs, l2, hc, hrep⟩ := readCells_ok hσ hx hr
      have hl := run_loadCells_list (P := P) w ⟨b, o, none⟩ vs hc
      rw [l2] at hl
      have hv : (loadVar t ⟨b, o, none⟩).run P w = .ok (.agg vs.toArray) w := by
        simp [loadVar, isAgg_run h2, sz_run h1, hl]
      refine ⟨.agg vs.toArray, ?_, mkAgg_rep (l1.trans l2.symm) hrep, rfl, _, rfl, hv⟩
      simp [Instr.loadAt, Instr.sureAddr, hv]
    · cases h
  · rename_i n h1 h2
    split at h
    · rename_i y ks hr
      cases h
      obtain ⟨b, o, rfl, l1, vs, l2, hc, hrep⟩ := readCells_ok hσ hx hr
      match vs, l2 with
      | [u], _ =>
        have hcell : w.cell? ⟨b, o, none⟩ = some u := by simpa [add_at] using hc 0 u rfl
        have hv : (loadVar t ⟨b, o, none⟩).run P w = .ok u w := by
          simp [loadVar, isAgg_run h2, hcell]
        refine ⟨u, ?_, hrep 0 y u rfl rfl, rfl, _, rfl, hv⟩
        simp [Instr.loadAt, Instr.sureAddr, hv]
    · cases h
  · cases h
end Go.Mir
