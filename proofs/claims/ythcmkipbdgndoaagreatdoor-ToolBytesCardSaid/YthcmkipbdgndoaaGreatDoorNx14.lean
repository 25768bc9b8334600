/- Heads of loops; results; operations in whatever order (lemmas; conditions: what they say). -/
import Derived.Test.YthcmkipbdgndoaaGreatDoorNx13
import Derived.Still
set_option linter.all false
set_option linter.unusedVariables false
set_option linter.unusedSimpArgs false
set_option linter.unnecessarySimpa false
namespace Go.Mir
open Go Go.RowKit
variable {P : Program} {μ μ' : Nat → Option KS} {S S' : Nat → Prop} {w w' : World} {σ σ' : Store}

/-! ### Heads of loops -/
structure ExtB (B : List Nat) (μ : Nat → Option KS) (S : Nat → Prop) (w : World) (μ' : Nat → Option KS) (S' : Nat → Prop) (w' : World) : Prop where
  keys : ∀ k m, k ∈ B → μ k = some m → μ' k = some m ∨ μ' k = some .stale
  st : ∀ b, S b → S' b
  mem : ∀ b, S b → w'.heap[b]? = w.heap[b]?
  frame : ∀ b, b < w.heap.size → (∀ k, ¬ owns (μ k) b) → w'.heap[b]? = w.heap[b]?
  own' : ∀ k b, owns (μ' k) b → (∃ j, owns (μ j) b) ∨ w.heap.size ≤ b
  st' : ∀ b, S' b → S b ∨ (∃ j, owns (μ j) b) ∨ w.heap.size ≤ b
  size : w.heap.size ≤ w'.heap.size
  os : w'.os = w.os
  tape : w'.tape = w.tape
  output : w'.output = w.output

theorem Ext.toB (B : List Nat) (h : Ext μ S w μ' S' w') : ExtB B μ S w μ' S' w' := ⟨fun k m _ hk => h.keys k m hk, h.st, h.mem, h.frame, h.own', h.st', h.size, h.os, h.tape, h.output⟩

theorem ExtB.trans {B : List Nat} {μ'' : Nat → Option KS} {S'' : Nat → Prop} {w'' : World} (h : ExtB B μ S w μ' S' w') (h' : ExtB B μ' S' w' μ'' S'' w'') : ExtB B μ S w μ'' S'' w'' where
  keys k m hk hm := by
    rcases h.keys k m hk hm with e | e
    · exact h'.keys k m hk e
    · rcases h'.keys k _ hk e with e' | e' <;> exact .inr e'
  st b hb := h'.st b (h.st b hb)
  mem b hb := (h'.mem b (h.st b hb)).trans (h.mem b hb)
  frame b hb hn := by
    refine (h'.frame b (Nat.lt_of_lt_of_le hb h.size) fun k hk => ?_).trans (h.frame b hb hn)
    rcases h.own' k b hk with ⟨j, hj⟩ | hj
    · exact hn j hj
    · omega
  own' k b hk := by
    rcases h'.own' k b hk with ⟨j, hj⟩ | hj
    · exact h.own' j b hj
    · exact .inr (Nat.le_trans h.size hj)
  st' b hb := by
    rcases h'.st' b hb with hb | ⟨j, hj⟩ | hb
    · exact h.st' b hb
    · exact .inr (h.own' j b hj)
    · exact .inr (.inr (Nat.le_trans h.size hb))
  size := Nat.le_trans h.size h'.size
  os := h'.os.trans h.os
  tape := h'.tape.trans h.tape
  output := h'.output.trans h.output

theorem ExtB.mono {B B' : List Nat} (hB : ∀ k ∈ B, k ∈ B') (h : ExtB B' μ S w μ' S' w') : ExtB B μ S w μ' S' w' := ⟨fun k m hk => h.keys k m (hB k hk), h.st, h.mem, h.frame, h.own', h.st', h.size, h.os, h.tape, h.output⟩

/-! ### Renaming rows in cells -/
theorem renCell_ok {k j kn : Nat} {e : TypeId} {sz : Nat} (hσ : StoRep μ S w σ) : ∃ μ', StoRep μ' S w (renCell k j kn e sz σ) ∧ Ext μ S w μ' S w := by
  unfold renCell
  split
  · rename_i live cs hkn hk
    split
    · rename_i x hx
      have hne : kn ≠ k := fun h => by rw [h, hk] at hkn; cases hkn
      -- the cell is laid anew
      have put : ∀ {μ1 : Nat → Option KS} {σ1 : Store} {y : AV}, StoRep μ1 S w σ1 → KeysOk μ μ1 → (∀ b, owns (μ1 k) b ↔ owns (μ k) b) → μ1 k = μ k → lk σ1 k = some (.box live cs) → (∀ (b : Nat) (cur : Array Value) (v : Value), μ k = some (.box b) → (∃ e, w.heap[b]? = some (.cells cur e (0, 0))) → cur[j]? = some v → RepA μ S w x v → RepA μ1 S w y v) →
          StoRep μ1 S w (ins k (.box live (cs.set j y)) σ1) := by
        intro μ1 σ1 y hs ko _ hμ hl hy
        obtain ⟨b, cur, e0, m1, m2, m3, m4, m5⟩ := hs.blk k _ hl
        obtain ⟨b', cur', e0', q1, q2, q3, q4, q5⟩ := hσ.blk k _ hk
        rw [hμ, q1] at m1
        cases m1
        rw [q3] at m3
        cases m3
        refine hs.upd (KeysOk.refl μ1) (fun _ h => h) (fun _ _ => rfl) (Nat.le_refl _) k _ (fun i => lk_ins k i _ σ1) ⟨b, cur, e0, by rw [hμ, q1], m2, q3, by simpa using m4, fun i z v hz hv => ?_⟩ (fun _ _ => rfl) (fun i c hi hoi => ⟨⟨Iff.rfl, rfl⟩, fun h => hi (hs.inj i k c hoi h)⟩) (fun c hc => hs.lt k c hc) hs.slt
        by_cases hij : i = j
        · subst hij
          have hlt : i < cs.length := (List.getElem?_eq_some_iff.1 hx).1
          rw [List.getElem?_set_self hlt] at hz
          cases hz
          exact hy b cur v q1 ⟨_, q3⟩ hv (q5 i x v hx hv)
        · rw [List.getElem?_set_ne (Ne.symm hij)] at hz
          exact m5 i z v hz hv
      split
      · rename_i r e' s' es hrow
        split
        · exact ⟨μ, hσ, Ext.refl _ _ _⟩
        rename_i hrk
        obtain ⟨off, len, own, rfl, hr, hown⟩ := isRow_spec hrow
        obtain ⟨b, cur, e0, q1, q2, q3, q4, q5⟩ := hσ.blk k _ hk
        have hlt : j < cs.length := (List.getElem?_eq_some_iff.1 hx).1
        have hv : cur[j]? = some (cur[j]'(by omega)) := Array.getElem?_eq_getElem (by omega)
        have hrep := q5 j _ _ hx hv
        obtain ⟨t1, t2, t3⟩ := take_row hσ hrep hr hown
        have hkn1 : lk (ins r .stale σ) kn = none := by
          rw [lk_ins]
          split
          · subst_vars; rw [hkn] at hr; cases hr
          · exact hkn
        have krk : updK μ r .stale k = μ k := updK_ne (Ne.symm hrk) _
        rcases t3 with ⟨rfl, a, hva⟩ | ⟨b1, t4, t5, t6, t7, t8⟩
        · obtain ⟨u1, u2⟩ := give_nil (e := e') (s := s') (a := a) t1 hkn1
          have ko := keysOk_new (t1.dom _ hkn1) .nil
          have ext : Ext μ S w (updK (updK μ r .stale) kn .nil) S w := t2.trans ⟨ko, fun _ h => h, fun _ _ => rfl, fun _ _ _ => rfl, fun i c hc => by
            by_cases e : i = kn
            · subst e; rw [updK_same] at hc; exact hc.elim
            · rw [updK_ne e] at hc; exact .inl ⟨i, hc⟩, fun _ h => .inl h, Nat.le_refl _, rfl, rfl, rfl⟩
          have kk : updK (updK μ r .stale) kn .nil k = μ k := by rw [updK_ne (Ne.symm hne), krk]
          refine ⟨_, put u1 ext.keys (fun b => by rw [kk]) kk (by rw [lk_ins, if_neg hne, lk_ins, if_neg hrk]; exact hk) (fun b2 cur2 v2 w1 w2 w3 w4 => ?_), ext⟩
          obtain ⟨e2, w2⟩ := w2
          rw [q1] at w1; cases w1
          rw [q3] at w2; cases w2
          rw [hv] at w3; cases w3
          rw [hva]; exact u2
        · obtain ⟨m, u0, u00, u1, u2⟩ := give_row t1 hkn1 t4 t6 t8
          have ko := keysOk_new (t1.dom _ hkn1) m
          have ext : Ext μ S w (updK (updK μ r .stale) kn m) S w := ⟨t2.keys.trans ko, fun _ h => h, fun _ _ => rfl, fun _ _ _ => rfl, fun i c hc => by
            by_cases e : i = kn
            · subst e; rw [updK_same] at hc; rw [u00 c hc]; exact .inl ⟨r, t5⟩
            · rw [updK_ne e] at hc; exact t2.own' i c hc, fun _ h => .inl h, Nat.le_refl _, rfl, rfl, rfl⟩
          have kk : updK (updK μ r .stale) kn m k = μ k := by rw [updK_ne (Ne.symm hne), krk]
          refine ⟨_, put u1 ext.keys (fun b => by rw [kk]) kk (by rw [lk_ins, if_neg hne, lk_ins, if_neg hrk]; exact hk) (fun b2 cur2 v2 w1 w2 w3 w4 => ?_), ext⟩
          obtain ⟨e2, w2⟩ := w2
          rw [q1] at w1; cases w1
          rw [q3] at w2; cases w2
          rw [hv] at w3; cases w3
          exact u2
      · split
        · have ht : ∀ v, RepA μ S w (.pv (.sl true [])) v → ∃ a, v = .slice a 0 0 := fun v hrep => by
            cases hrep with
            | pv hp =>
              generalize hq : (PV.sl true []) = q at hp
              cases hp with
              | @sl full es a cap s f hn0 hc hf hs ha hr =>
                cases hq
                have := hf rfl
                exact ⟨a, by rw [this]; rfl⟩
              | _ => cases hq
          obtain ⟨b, cur, e0, q1, q2, q3, q4, q5⟩ := hσ.blk k _ hk
          have hlt : j < cs.length := (List.getElem?_eq_some_iff.1 hx).1
          have hv : cur[j]? = some (cur[j]'(by omega)) := Array.getElem?_eq_getElem (by omega)
          obtain ⟨a, hva⟩ := ht _ (q5 j _ _ hx hv)
          obtain ⟨u1, u2⟩ := give_nil (e := e) (s := sz) (a := a) hσ hkn
          have ko := keysOk_new (hσ.dom _ hkn) .nil
          have ext : Ext μ S w (updK μ kn .nil) S w := ⟨ko, fun _ h => h, fun _ _ => rfl, fun _ _ _ => rfl, fun i c hc => by
            by_cases e : i = kn
            · subst e; rw [updK_same] at hc; exact hc.elim
            · rw [updK_ne e] at hc; exact .inl ⟨i, hc⟩, fun _ h => .inl h, Nat.le_refl _, rfl, rfl, rfl⟩
          have kk : updK μ kn .nil k = μ k := updK_ne (Ne.symm hne) _
          refine ⟨_, put u1 ext.keys (fun b => by rw [kk]) kk (by rw [lk_ins, if_neg hne]; exact hk) (fun b2 cur2 v2 w1 w2 w3 w4 => ?_), ext⟩
          obtain ⟨e2, w2⟩ := w2
          rw [q1] at w1; cases w1
          rw [q3] at w2; cases w2
          rw [hv] at w3; cases w3
          rw [hva]; exact u2
        · exact ⟨μ, hσ, Ext.refl _ _ _⟩
    · exact ⟨μ, hσ, Ext.refl _ _ _⟩
  · exact ⟨μ, hσ, Ext.refl _ _ _⟩
theorem renCells_ok : ∀ {l : List (Nat × Nat × Nat × TypeId × Nat)} {σ : Store} {μ : Nat → Option KS}, StoRep μ S w σ → ∃ μ', StoRep μ' S w (renCells l σ) ∧ Ext μ S w μ' S w
  | [], σ, μ, h => ⟨μ, h, Ext.refl _ _ _⟩
  | (k, j, kn, e, s) :: r, σ, μ, h => by
    obtain ⟨μ1, h1, h2⟩ := renCell_ok (k := k) (j := j) (kn := kn) (e := e) (sz := s) h
    obtain ⟨μ2, h3, h4⟩ := renCells_ok (l := r) h1
    exact ⟨μ2, h3, h2.trans h4⟩

theorem lk_restrict (env : Env) : ∀ (L : List Nat) (t : Nat) (x : AV), lk (restrict env L) t = some x → lk env t = some x
  | [], t, x, h => by simp [restrict, lk_nil] at h
  | i :: L, t, x, h => by
    simp only [restrict] at h
    split at h
    · rename_i y hy
      rw [lk_ins] at h
      split at h
      · subst_vars; cases h; exact hy
      · exact lk_restrict env L t x h
    · exact lk_restrict env L t x h

inductive Taken (S : Nat → Prop) (w : World) (tmps : Array Value) : List (Nat × TypeId × Nat × List PV) → List Nat → Prop
  | nil : Taken S w tmps [] []
  | none {t e s : Nat} {a : Option Addr} {r : List (Nat × TypeId × Nat × List PV)} {bs : List Nat} (h : tmps[t]? = some (.slice a 0 0)) (hr : Taken S w tmps r bs) : Taken S w tmps ((t, e, s, []) :: r) bs
  | fresh {t e s b : Nat} {es : List PV} {v : Value} {r : List (Nat × TypeId × Nat × List PV)} {bs : List Nat} (h : tmps[t]? = some v) (hf : FreshAt S w e s es v b) (hb : b ∉ bs) (hr : Taken S w tmps r bs) : Taken S w tmps ((t, e, s, es) :: r) (b :: bs)

theorem Taken.mono {tmps : Array Value} {r : List (Nat × TypeId × Nat × List PV)} {bs : List Nat} (hS : ∀ b, S b → S' b) (h : Taken S w tmps r bs) : Taken S' w tmps r bs := by
  induction h with
  | nil => exact .nil
  | none h _ ih => exact .none h ih
  | fresh h hf hb _ ih => exact .fresh h (hf.mono hS (fun _ _ => rfl) rfl) hb ih

theorem EnvRep.bot {env : Env} {tmps : Array Value} (h : EnvRep μ S w env tmps) {t : Nat} {x : AV} (hx : lk env t = some x) : EnvRep μ S w (ins t .bot env) tmps := fun j y hj => by
  rw [lk_ins] at hj
  split at hj
  · subst_vars; cases hj
    obtain ⟨v, hv, _⟩ := h _ x hx
    exact ⟨v, hv, .bot v⟩
  · exact h j y hj

theorem takeRows_ok : ∀ {rs : List (Nat × TypeId × Nat)} {env : Env} {σ : Store} {μ : Nat → Option KS} {tmps : Array Value}, StoRep μ S w σ → EnvRep μ S w env tmps →
    ∃ μ' bs, StoRep μ' S w (takeRows rs env σ).2.2 ∧ EnvRep μ' S w (takeRows rs env σ).2.1 tmps ∧ Ext μ S w μ' S w ∧ Taken S w tmps (takeRows rs env σ).1 bs ∧ ∀ b ∈ bs, ¬ S b ∧ (∀ k, ¬ owns (μ' k) b) ∧ (∃ j, owns (μ j) b) ∧ b < w.heap.size
  | [], env, σ, μ, tmps, hσ, he => ⟨μ, [], hσ, he, Ext.refl _ _ _, .nil, fun b hb => by simp at hb⟩
  | r :: rs, env, σ, μ, tmps, hσ, he => by
    unfold takeRows
    split
    · rename_i k e s es hrow
      obtain ⟨off, len, own, hx, hk, hc⟩ := isRow_spec hrow
      have hlk : lk env r.1 = some (.ms k off len own) := by
        cases h : lk env r.1 with
        | none => rw [h] at hx; cases hx
        | some y => rw [h] at hx; exact congrArg some hx
      obtain ⟨v, hv, hrep⟩ := he r.1 _ hlk
      obtain ⟨t1, t2, t3⟩ := take_row hσ hrep hk hc
      obtain ⟨μ', bs, g1, g2, g3, g4, g5⟩ := takeRows_ok (rs := rs) t1 ((he.bot hlk).mono t2.keys t2.st (fun _ _ => rfl))
      have back : ∀ b ∈ bs, ¬ S b ∧ (∀ k, ¬ owns (μ' k) b) ∧ (∃ j, owns (μ j) b) ∧ b < w.heap.size := fun b hb => by
        obtain ⟨q1, q2, ⟨j, q3⟩, q4⟩ := g5 b hb
        refine ⟨q1, q2, ?_, q4⟩
        rcases t2.own' j b q3 with h | h
        · exact h
        · omega
      rcases t3 with ⟨rfl, a, rfl⟩ | ⟨b, t4, t5, t6, t7, t8⟩
      · exact ⟨μ', bs, g1, g2, t2.trans g3, .none hv g4, back⟩
      · refine ⟨μ', b :: bs, g1, g2, t2.trans g3, .fresh hv t4 (fun hb => ?_) g4, fun c hc => ?_⟩
        · obtain ⟨_, _, ⟨j, q3⟩, _⟩ := g5 b hb
          exact t8 j q3
        · rcases List.mem_cons.1 hc with rfl | hc
          · refine ⟨t6, fun j hj => ?_, ⟨k, t5⟩, t7⟩
            rcases g3.own' j c hj with ⟨i, h⟩ | h
            · exact t8 i h
            · omega
          · exact back c hc
    · split
      · rename_i hlk
        obtain ⟨v, hv, hrep⟩ := he r.1 _ hlk
        obtain ⟨μ', bs, g1, g2, g3, g4, g5⟩ := takeRows_ok (rs := rs) hσ (he.bot hlk)
        have : ∃ a, v = .slice a 0 0 := by
          cases hrep with
          | pv hp =>
            generalize hq : (PV.sl true []) = q at hp
            cases hp with
            | @sl full es a cap s f hn0 hc hf hs ha hr =>
              cases hq
              have := hf rfl
              exact ⟨a, by rw [this]; rfl⟩
            | _ => cases hq
        obtain ⟨a, rfl⟩ := this
        exact ⟨μ', bs, g1, g2, g3, .none hv g4, g5⟩
      · exact takeRows_ok hσ he

theorem giveRows_ok {c0 : Nat} {tmps : Array Value} : ∀ {rs : List (Nat × TypeId × Nat × List PV)} {bs : List Nat} {env : Env} {σ : Store} {μ : Nat → Option KS}, StoRep μ S w σ → EnvRep μ S w env tmps → Taken S w tmps rs bs → (∀ b ∈ bs, ¬ S b ∧ ∀ j, ¬ owns (μ j) b) →
    ∃ μ', StoRep μ' S w (giveRows c0 rs env σ).2 ∧ EnvRep μ' S w (giveRows c0 rs env σ).1 tmps ∧ KeysOk μ μ' ∧ ∀ j b, owns (μ' j) b → owns (μ j) b ∨ b ∈ bs
  | [], bs, env, σ, μ, hσ, he, ht, hb => ⟨μ, hσ, he, KeysOk.refl μ, fun j b h => .inl h⟩
  | (t, e, s, es) :: r, bs, env, σ, μ, hσ, he, ht, hb => by
    unfold giveRows
    split
    · rename_i hk
      have put : ∀ {m : KS} {v : Value}, tmps[t]? = some v → RepA (updK μ (canon c0 t) m) S w (.ms (canon c0 t) 0 es.length true) v → KeysOk μ (updK μ (canon c0 t) m) → EnvRep (updK μ (canon c0 t) m) S w (ins t (.ms (canon c0 t) 0 es.length true) env) tmps := by
        intro m v hv hr ko j y hj
        rw [lk_ins] at hj
        split at hj
        · subst_vars; cases hj; exact ⟨v, hv, hr⟩
        · exact he.mono ko (fun _ h => h) (fun _ _ => rfl) j y hj
      cases ht with
      | @none _ _ _ a _ _ hv hr =>
        obtain ⟨t1, t2⟩ := give_nil (e := e) (s := s) (a := a) hσ hk
        have ko := keysOk_new (hσ.dom _ hk) .nil
        obtain ⟨μ', g1, g2, g3, g4⟩ := giveRows_ok (c0 := c0) t1 (put hv t2 ko) hr (fun b hb' => ⟨(hb b hb').1, fun j hj => by
          by_cases e : j = canon c0 t
          · subst e; rw [updK_same] at hj; exact hj
          · rw [updK_ne e] at hj; exact (hb b hb').2 j hj⟩)
        refine ⟨μ', g1, g2, ko.trans g3, fun j b hj => ?_⟩
        rcases g4 j b hj with h | h
        · by_cases e : j = canon c0 t
          · subst e; rw [updK_same] at h; exact h.elim
          · rw [updK_ne e] at h; exact .inl h
        · exact .inr h
      | @fresh _ _ _ b _ v _ bs' hv hf hnb hr =>
        obtain ⟨mm, q1, q2, t1, t2⟩ := give_row hσ hk hf (hb b (by simp)).1 (hb b (by simp)).2
        have ko := keysOk_new (hσ.dom _ hk) mm
        obtain ⟨μ', g1, g2, g3, g4⟩ := giveRows_ok (c0 := c0) t1 (put hv t2 ko) hr (fun c hc => ⟨(hb c (List.mem_cons_of_mem _ hc)).1, fun j hj => by
          by_cases e : j = canon c0 t
          · subst e; rw [updK_same] at hj; exact hnb (q2 c hj ▸ hc)
          · rw [updK_ne e] at hj; exact (hb c (List.mem_cons_of_mem _ hc)).2 j hj⟩)
        refine ⟨μ', g1, g2, ko.trans g3, fun j c hj => ?_⟩
        rcases g4 j c hj with h | h
        · by_cases e : j = canon c0 t
          · subst e; rw [updK_same] at h; rw [q2 c h]; exact .inr (by simp)
          · rw [updK_ne e] at h; exact .inl h
        · exact .inr (List.mem_cons_of_mem _ h)
    · cases ht with
      | none hv hr => exact giveRows_ok hσ he hr hb
      | fresh hv hf hnb hr =>
        obtain ⟨μ', g1, g2, g3, g4⟩ := giveRows_ok (c0 := c0) hσ he hr (fun c hc => hb c (List.mem_cons_of_mem _ hc))
        exact ⟨μ', g1, g2, g3, fun j c hj => (g4 j c hj).imp id (List.mem_cons_of_mem _)⟩

theorem lk_dropEnv (keep : Nat → Bool) (σ : Store) : ∀ (env : Env) (t : Nat), lk (dropEnv keep σ env) t = (lk env t).map (scrub keep σ)
  | [], t => rfl
  | (i, y) :: r, t => by
    have ih := lk_dropEnv keep σ r t
    simp only [dropEnv, List.map_cons, lk_cons] at ih ⊢
    split
    · rfl
    · exact ih

theorem norm_ok {keep : Nat → Bool} {B : List Nat} {L : List Nat} {R : List (Nat × TypeId × Nat)} {c0 : Nat} {s : St} {tmps : Array Value} (hB : ∀ k, k ∈ B → keep k = true) (hσ : StoRep μ S w s.sto) (he : EnvRep μ S w s.env tmps) :
    ∃ μ' S', StoRep μ' S' w (norm keep L R c0 s).sto ∧ EnvRep μ' S' w (norm keep L R c0 s).env tmps ∧ ExtB B μ S w μ' S' w := by
  have he1 : EnvRep μ S w (restrict s.env L) tmps := fun t x ht => he t x (lk_restrict _ _ t x ht)
  obtain ⟨μ1, bs, g1, g2, g3, g4, g5⟩ := takeRows_ok (rs := R) hσ he1
  have d1 := drop_ok g1 keep
  have d2 : EnvRep (keepμ keep μ1) (dropS keep μ1 S) w (dropEnv keep (takeRows R (restrict s.env L) s.sto).2.2 (takeRows R (restrict s.env L) s.sto).2.1) tmps := fun t x ht => by
    rw [lk_dropEnv, Option.map_eq_some_iff] at ht
    obtain ⟨y, hy, rfl⟩ := ht
    obtain ⟨v, hv, hr⟩ := g2 t y hy
    exact ⟨v, hv, scrub_rep g1 hr⟩
  have own1 : ∀ k b, owns (keepμ keep μ1 k) b → owns (μ1 k) b := fun k b h => by
    unfold keepμ at h
    split at h
    · exact h
    · exact h.elim
  obtain ⟨μ2, k1, k2, k3, k4⟩ := giveRows_ok (c0 := c0) d1 d2 (g4.mono fun b h => .inl h) (fun b hb => by
    obtain ⟨q1, q2, _, _⟩ := g5 b hb
    refine ⟨fun h => ?_, fun j hj => q2 j (own1 j b hj)⟩
    rcases h with h | ⟨k, _, h⟩
    · exact q1 h
    · exact q2 k h)
  refine ⟨μ2, _, k1, k2, ⟨fun k m hk hm => ?_, fun b h => .inl h, fun _ _ => rfl, fun _ _ _ => rfl, fun k b hb => ?_, fun b hb => ?_, Nat.le_refl _, rfl, rfl, rfl⟩⟩
  · have hk' : keep k = true := hB k hk
    rcases g3.keys k m hm with e | e
    · exact k3 k m (by simp [keepμ, hk', e])
    · rcases k3 k .stale (by simp [keepμ, hk', e]) with e' | e' <;> exact .inr e'
  · rcases k4 k b hb with h | h
    · exact g3.own' k b (own1 k b h)
    · obtain ⟨_, _, q3, _⟩ := g5 b h; exact .inl q3
  · rcases hb with h | ⟨k, _, h⟩
    · exact .inl h
    · exact .inr (g3.own' k b h)

/-! ### Results -/
theorem results_list (tmps : Array Value) : ∀ {rs : List ResultVar} {env : Env} {xs : List AV}, StoRep μ S w σ → EnvRep μ S w env tmps → results? P env σ rs = some xs →
    ∃ vs, (rs.mapM fun
      | .tmp t => pure (tmps.getD t undef)
      | .cell a t => do loadVar t (← asAddr (tmps.getD a undef)) : Sem (List Value)).run P w = .ok vs w ∧ PW (RepA μ S w) xs vs
  | [], env, xs, hσ, he, h => by simp [results?] at h; subst h; exact ⟨[], by simp, PW.nil⟩
  | .tmp t :: r, env, xs, hσ, he, h => by
    simp only [results?] at h
    split at h
    · rename_i xs' h1
      cases h
      obtain ⟨vs, h2, h3⟩ := results_list tmps hσ he h1
      have hx := EnvRep.ev (a := { tmps := tmps, defers := [] }) he (.tmp t)
      refine ⟨tmps.getD t undef :: vs, ?_, PW.cons hx h3⟩
      simp only [List.mapM_cons, Sem.run_bind, Sem.run_pure, Result.andThen_ok, h2]
    · cases h
  | .cell a t :: r, env, xs, hσ, he, h => by
    simp only [results?] at h
    split at h
    · rename_i e xs' hl h1
      cases h
      obtain ⟨vs, h2, h3⟩ := results_list tmps hσ he h1
      have hx := EnvRep.ev (a := { tmps := tmps, defers := [] }) he (.tmp a)
      obtain ⟨u, _, h4, _, ad, h5, h6⟩ := loadE_ok hσ hx hl
      have h5' : tmps.getD a undef = .pointer (some ad) := h5
      refine ⟨u :: vs, ?_, PW.cons h4 h3⟩
      have ha : (asAddr (tmps.getD a undef)).run P w = .ok ad w := by rw [h5']; rfl
      simp only [List.mapM_cons, Sem.run_bind, Sem.run_pure, Result.andThen_ok, ha, h6, h2]
    · cases h

theorem results_ok {fn : Func} {tmps : Array Value} {env : Env} {xs : List AV} (hσ : StoRep μ S w σ) (he : EnvRep μ S w env tmps) (h : results? P env σ fn.results.toList = some xs) :
    ∃ vs : List Value, (results fn tmps).run P w = .ok (if h : vs.toArray.size = 1 then vs.toArray[0] else .tuple vs.toArray) w ∧ PW (RepA μ S w) xs vs := by
  obtain ⟨vs, h1, h2⟩ := results_list (P := P) tmps hσ he h
  refine ⟨vs, ?_, h2⟩
  unfold results
  rw [← Array.toArray_toList (xs := fn.results), List.mapM_toArray, Sem.run_bind, Sem.run_map]
  exact Eq.trans (congrArg (fun r : Result (List Value) => (r.andThen fun a w' => Result.ok a.toArray w').andThen fun a w' => Sem.run P (pure (if h : a.size = 1 then a[0] else Value.tuple a)) w') h1) rfl

/-! ### Whatever order -/
noncomputable def app (o : Oper) (e : Eff) (s : St) : Option St := match putE o.dst s.nt e.val s.env with
  | some env => some { s with env, sto := applyMem s.sto e.mem }
  | none => none

theorem wantedA_ok {all : List Oper} {env : Env} {a : Act} {o : Oper} {b : Bool} (he : EnvRep μ S w env a.tmps) (h : wantedA all env o = some b) : Region.wanted o (yielded all.toArray a.tmps) = b := by
  unfold wantedA at h
  unfold Region.wanted
  split at h
  · rename_i hg; cases h; simp [hg]
  · rename_i j want hg
    simp only [hg]
    unfold yielded
    split at h
    · rename_i g hj
      split at h
      · rename_i t ht
        have e : ((all.toArray[j]?).bind (·.dst)).bind (a.tmps[·]?) = a.tmps[t]? := by simp [hj, ht]
        rw [e]
        split at h
        · rename_i c hc
          cases h
          obtain ⟨v, hv, hr⟩ := he t _ hc
          rw [repA_lit hr] at hv
          rw [hv]
          cases c <;> cases want <;> rfl
        · rename_i hc
          cases h
          obtain ⟨v, hv, hr⟩ := he t _ hc
          obtain ⟨us, rfl, _⟩ := repA_tupp hr
          rw [hv]
          rfl
        · cases h
      · rename_i ht
        cases h
        simp [hj, ht]
    · rename_i hj
      cases h
      simp [hj]

/-- Looked at, and left alone. -/
theorem evE_ins {env : Env} {d : Nat} {x : AV} {y : Operand} (h : y ≠ .tmp d) : evE (ins d x env) y = evE env y := by
  cases y with
  | tmp t => simp only [evE, lk_ins]; rw [if_neg (fun e => h (by rw [e]))]
  | _ => rfl
theorem evE_put {env env' : Env} {dst : Option Nat} {nt : Nat} {x : AV} {y : Operand} (hp : putE dst nt x env = some env') (h : ∀ d, dst = some d → y ≠ .tmp d) : evE env' y = evE env y := by
  unfold putE at hp
  split at hp
  · cases hp; rfl
  · split at hp
    · cases hp; exact evE_ins (h _ rfl)
    · cases hp

theorem prep_congr {z : Bool} {ev ev' : Operand → AV} {k : Nat} {o : Oper} (h : ∀ x ∈ o.op.operands, ev' x = ev x) : prepZ P z ev' σ k o = prepZ P z ev σ k o := by
  have lists : ∀ xs : Array Operand, (∀ x ∈ xs, ev' x = ev x) → xs.toList.map ev' = xs.toList.map ev := fun xs hx => List.map_congr_left fun x hm => hx x (by simpa using hm)
  have pairs : ∀ ps : Array (Nat × Operand), (∀ x ∈ (ps.toList.map (·.2)).toArray, ev' x = ev x) → (ps.toList.map fun p => (p.1, ev' p.2)) = (ps.toList.map fun p => (p.1, ev p.2)) := fun ps hp =>
    List.map_congr_left fun p hm => by rw [hp p.2 (by simp; exact ⟨p.1, by simpa using hm⟩)]
  unfold prepZ
  cases hop : o.op <;> simp only [hop, Op.operands] at h <;> simp only
  case move x => rw [h x (by simp)]
  case assign x => rw [h x (by simp)]
  case pick c a b => rw [h c (by simp), h a (by simp), h b (by simp)]
  case box e x => rw [h x (by simp)]
  case build t ps => rw [pairs ps h]
  case buildSlice t n ps => rw [pairs ps h]
  case insert t m k x => rw [h m (by simp), h k (by simp), h x (by simp)]
  case mapUpdate t m k x => rw [h m (by simp), h k (by simp), h x (by simp)]
  case load t a => rw [h a (by simp)]
  case store t a x => rw [h a (by simp), h x (by simp)]
  case nilCheck x => rw [h x (by simp)]
  case binOp op t x y ty => rw [h x (by simp), h y (by simp)]
  case unOp op t x => rw [h x (by simp)]
  case convert s d x => rw [h x (by simp)]
  case makeFunc f a c => rw [lists a fun x hx => h x (by simp [hx]), lists c fun x hx => h x (by simp [hx])]
  case makeMap t r =>
    cases r with
    | none => rfl
    | some x => simp only [Option.map_some]; rw [h x (by simp)]
  case makeSlice t l c => rw [h l (by simp), h c (by simp)]
  case slice t x lo hi mx =>
    have e1 : lo.map ev' = lo.map ev := by cases lo with | none => rfl | some y => simp only [Option.map_some]; rw [h y (by simp)]
    have e2 : hi.map ev' = hi.map ev := by cases hi with | none => rfl | some y => simp only [Option.map_some]; rw [h y (by simp)]
    have e3 : mx.map ev' = mx.map ev := by cases mx with | none => rfl | some y => simp only [Option.map_some]; rw [h y (by simp)]
    rw [h x (by simp), e1, e2, e3]
  case fieldAddr t x f => rw [h x (by simp)]
  case field t x f => rw [h x (by simp)]
  case indexAddr t x i => rw [h x (by simp), h i (by simp)]
  case index t x i => rw [h x (by simp), h i (by simp)]
  case lookup t x i ok => rw [h x (by simp), h i (by simp)]
  case extract x i => rw [h x (by simp)]
  case sliceToArrayPointer t x => rw [h x (by simp)]
  case range t x => rw [h x (by simp)]
  case next x b => rw [h x (by simp)]
  case makeInterface t x => rw [h x (by simp)]
  case typeAssert x xt t ok => rw [h x (by simp)]
  case call c =>
    simp only [Call.operands] at h
    have ha := lists c.args fun x hx => h x (by simp [hx])
    rw [ha]
    cases hc : c.callee with
    | value f => simp only [hc] at h; simp only; rw [h f (by simp)]
    | invoke r name => simp only [hc] at h; simp only; rw [h r (by simp)]
    | _ => rfl
end Go.Mir
