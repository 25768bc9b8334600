/- Names that go, rows that change hands, frames (lemmas; conditions: what they say). -/
import Derived.Test.YthcmkipbdgndoaaGreatDoorNx10
set_option linter.all false
set_option linter.unusedVariables false
set_option linter.unusedSimpArgs false
set_option linter.unnecessarySimpa false
namespace Go.Mir
open Go Go.RowKit
variable {P : Program} {μ μ' : Nat → Option KS} {S S' : Nat → Prop} {w w' : World} {σ σ' : Store}

/-! ### Names that go -/
noncomputable def keepμ (keep : Nat → Bool) (μ : Nat → Option KS) : Nat → Option KS := fun k => if keep k then μ k else none
noncomputable def dropS (keep : Nat → Bool) (μ : Nat → Option KS) (S : Nat → Prop) : Nat → Prop := fun b => S b ∨ ∃ k, keep k = false ∧ owns (μ k) b

theorem okRefs_rep {keep : Nat → Bool} : ∀ (n : Nat) (x : AV) (v : Value), x.okRefs keep n = true → RepA μ S w x v → RepA (keepμ keep μ) (dropS keep μ S) w x v := by
  intro n
  induction n with
  | zero => intro x v h; simp [AV.okRefs] at h
  | succ n ih =>
    intro x v h hx
    have hk : ∀ {k : Nat}, keep k = true → keepμ keep μ k = μ k := fun h => by simp [keepμ, h]
    cases hx with
    | bot => exact .bot _
    | pv hp => exact .pv (hp.mono (fun _ h => .inl h) (fun _ _ => rfl))
    | ms hm => exact .ms (by rw [hk (by simpa [AV.okRefs] using h)]; exact hm)
    | rp hm => exact .rp (by rw [hk (by simpa [AV.okRefs] using h)]; exact hm)
    | bp hm => exact .bp (by rw [hk (by simpa [AV.okRefs] using h)]; exact hm)
    | mm hm => exact .mm (by rw [hk (by simpa [AV.okRefs] using h)]; exact hm)
    | yl hm => exact .yl (by rw [hk (by simpa [AV.okRefs] using h)]; exact hm)
    | nilq hm => exact .nilq hm
    | gp => exact .gp
    | agg hl hr => exact .agg hl fun j q v hq hv => ih q v (by simp only [AV.okRefs] at h; exact List.all_eq_true.1 h q (List.mem_of_getElem? hq)) (hr j q v hq hv)
    | tuple hl hr => exact .tuple hl fun j q v hq hv => ih q v (by simp only [AV.okRefs] at h; exact List.all_eq_true.1 h q (List.mem_of_getElem? hq)) (hr j q v hq hv)
    | fn hl hr hl' hr' =>
      simp only [AV.okRefs, Bool.and_eq_true] at h
      exact .fn hl (fun j q v hq hv => ih q v (List.all_eq_true.1 h.1 q (List.mem_of_getElem? hq)) (hr j q v hq hv)) hl' (fun j q v hq hv => ih q v (List.all_eq_true.1 h.2 q (List.mem_of_getElem? hq)) (hr' j q v hq hv))

theorem scrub_rep (hσ : StoRep μ S w σ) {keep : Nat → Bool} {x : AV} {v : Value} (hx : RepA μ S w x v) : RepA (keepμ keep μ) (dropS keep μ S) w (scrub keep σ x) v := by
  unfold scrub
  split
  · exact okRefs_rep _ x v (by assumption) hx
  · split
    · rename_i p ks hr
      split
      · rename_i hks
        refine .pv (resolve_sound hσ (fun _ h => .inl h) deep x v p ks hx hr fun k hk b hb => .inr ⟨k, ?_, hb⟩)
        have := List.all_eq_true.1 hks k hk
        simpa using this
      · exact .bot _
    · exact .bot _

theorem lk_dropSto (keep : Nat → Bool) (σ0 : Store) : ∀ (σ : Store) (k : Nat), lk ((σ.filter fun x => keep x.1).map fun x => (x.1, x.2.scrub keep σ0)) k = if keep k then (lk σ k).map (Blk.scrub keep σ0) else none
  | [], k => by simp [lk_nil]
  | (j, b) :: r, k => by
    have ih := lk_dropSto keep σ0 r k
    simp only [List.filter_cons]
    by_cases hj : keep j = true
    · rw [if_pos hj]
      simp only [List.map_cons, lk_cons]
      by_cases hjk : j = k
      · subst hjk; simp [hj]
      · rw [if_neg hjk, if_neg hjk]; exact ih
    · rw [if_neg (by simpa using hj), ih]
      simp only [lk_cons]
      by_cases hjk : j = k
      · subst hjk; simp [hj]
      · rw [if_neg hjk]

theorem drop_ok (hσ : StoRep μ S w σ) (keep : Nat → Bool) : StoRep (keepμ keep μ) (dropS keep μ S) w (dropSto keep σ) where
  blk k b hb := by
    unfold dropSto at hb
    rw [lk_dropSto] at hb
    split at hb
    · rename_i hk
      rw [Option.map_eq_some_iff] at hb
      obtain ⟨x, hx, rfl⟩ := hb
      have hb := hσ.blk k x hx
      have e : keepμ keep μ k = μ k := by simp [keepμ, hk]
      have hS : ∀ b, owns (μ k) b → (dropS keep μ S b ↔ S b) := fun b ho => by
        constructor
        · intro h
          rcases h with h | ⟨k', hk', ho'⟩
          · exact h
          · have := hσ.inj k k' b ho ho'
            subst this
            rw [hk] at hk'
            cases hk'
        · exact fun h => .inl h
      cases x with
      | stale => exact e.trans hb
      | gl g cs => exact ⟨e.trans hb.1, hb.2.mono (fun _ h => .inl h) (fun _ _ => rfl)⟩
      | box live cs =>
        obtain ⟨b, cur, t, hμ, hl, hh, hsz, hc⟩ := hb
        refine ⟨b, cur, t, e.trans hμ, (hS b (by rw [hμ]; rfl)).trans hl, hh, by simpa using hsz, fun j x v hx hv => ?_⟩
        rw [List.getElem?_map, Option.map_eq_some_iff] at hx
        obtain ⟨y, hy, rfl⟩ := hx
        exact scrub_rep hσ (hc j y v hy hv)
      | row live t s es =>
        rcases hb with ⟨h1, h2⟩ | ⟨b, cap, cur, hμ, hl, hh, h1, h2, h3, hc⟩
        · exact .inl ⟨h1, e.trans h2⟩
        · exact .inr ⟨b, cap, cur, e.trans hμ, (hS b (by rw [hμ]; rfl)).trans hl, hh, h1, h2, h3, fun i p hp => ⟨(hc i p hp).1, fun j q v h4 h5 => ((hc i p hp).2 j q v h4 h5).mono (fun _ h => .inl h) (fun _ _ => rfl)⟩⟩
      | map live es =>
        obtain ⟨b, ents, clk, hμ, hl, hh, hsz, hc⟩ := hb
        exact ⟨b, ents, clk, e.trans hμ, (hS b (by rw [hμ]; rfl)).trans hl, hh, hsz, fun i x m h1 h2 => ⟨(hc i x m h1 h2).1, (hc i x m h1 h2).2.mono (fun _ h => .inl h) (fun _ _ => rfl)⟩⟩
      | fmap live es =>
        obtain ⟨b, ents, clk, hμ, hl, hh, hsz, hc⟩ := hb
        refine ⟨b, ents, clk, e.trans hμ, (hS b (by rw [hμ]; rfl)).trans hl, hh, by simpa using hsz, fun i x m h1 h2 => ?_⟩
        rw [List.getElem?_map, Option.map_eq_some_iff] at h1
        obtain ⟨y, hy, rfl⟩ := h1
        exact ⟨(hc i y m hy h2).1, scrub_rep hσ (hc i y m hy h2).2⟩
      | it live s pos =>
        obtain ⟨b, hμ, hl, hh⟩ := hb
        exact ⟨b, e.trans hμ, (hS b (by rw [hμ]; rfl)).trans hl, hh⟩
      | lp live busy pend =>
        obtain ⟨l, tmps, ps, as, body, rec, hμ, hl, hh, hr⟩ := hb
        exact ⟨l, tmps, ps, as, body, rec, e.trans hμ, (hS l (by rw [hμ]; rfl)).trans hl, hh, hr⟩
    · cases hb
  dom k hk := by
    unfold dropSto at hk
    rw [lk_dropSto] at hk
    unfold keepμ
    split at hk
    · rename_i h; rw [if_pos h]; rw [Option.map_eq_none_iff] at hk; exact hσ.dom k hk
    · rename_i h; rw [if_neg h]
  inj k k' b h h' := by
    unfold keepμ at h h'
    split at h
    · split at h'
      · exact hσ.inj k k' b h h'
      · exact h'.elim
    · exact h.elim
  lt k b h := by
    unfold keepμ at h
    split at h
    · exact hσ.lt k b h
    · exact h.elim
  slt b h := by
    rcases h with h | ⟨k, _, h⟩
    · exact hσ.slt b h
    · exact hσ.lt k b h

/-! ### Rows that change hands -/
noncomputable def FreshAt (S : Nat → Prop) (w : World) (e : TypeId) (s : Nat) (es : List PV) (v : Value) (b : Nat) : Prop :=
  ∃ cap cur, v = .slice (some ⟨b, 0, none⟩) es.length cap ∧ es.length ≤ cap ∧ cap ≤ maxLen ∧ w.heap[b]? = some (.cells cur e (0, 0)) ∧ cur.size = cap * s ∧ RowRel S w s es cur.toList

theorem FreshAt.mono {e : TypeId} {s : Nat} {es : List PV} {v : Value} {b : Nat} (hS : ∀ b, S b → S' b) (hm : ∀ b, S b → w'.heap[b]? = w.heap[b]?) (hb : w'.heap[b]? = w.heap[b]?) (h : FreshAt S w e s es v b) : FreshAt S' w' e s es v b := by
  obtain ⟨cap, cur, h1, h2, h3, h4, h5, h6⟩ := h
  exact ⟨cap, cur, h1, h2, h3, hb.trans h4, h5, h6.mono hS hm⟩

inductive RVs (S : Nat → Prop) (w : World) : List RV → List Value → List Nat → Prop
  | nil : RVs S w [] [] []
  | pv {p : PV} {v : Value} {rs : List RV} {vs : List Value} {bs : List Nat} (h : Rep S w p v) (hr : RVs S w rs vs bs) : RVs S w (.pv p :: rs) (v :: vs) bs
  | none {e s : Nat} {a : Option Addr} {rs : List RV} {vs : List Value} {bs : List Nat} (hr : RVs S w rs vs bs) : RVs S w (.fresh e s [] :: rs) (.slice a 0 0 :: vs) bs
  | fresh {e s b : Nat} {es : List PV} {v : Value} {rs : List RV} {vs : List Value} {bs : List Nat} (h : FreshAt S w e s es v b) (hb : b ∉ bs) (hr : RVs S w rs vs bs) : RVs S w (.fresh e s es :: rs) (v :: vs) (b :: bs)

/-- Taking a row from its name. -/
theorem take_row (hσ : StoRep μ S w σ) {k off len : Nat} {own : Bool} {v : Value} {e s : Nat} {es : List PV} (hx : RepA μ S w (.ms k off len own) v) (he : lk σ k = some (.row true e s es)) (hc : own = true) :
    StoRep (updK μ k .stale) S w (ins k .stale σ) ∧ Ext μ S w (updK μ k .stale) S w ∧ ((es = [] ∧ ∃ a, v = .slice a 0 0) ∨ ∃ b, FreshAt S w e s es v b ∧ owns (μ k) b ∧ ¬ S b ∧ b < w.heap.size ∧ ∀ j, ¬ owns (updK μ k .stale j) b) := by
  subst hc
  obtain ⟨rfl, rfl⟩ := (by cases hx with | ms hm => exact own_whole hσ he hm : off = 0 ∧ len = es.length)
  have hm : ∃ m, μ k = some m := by
    rcases hσ.blk k _ he with ⟨_, h⟩ | ⟨_, _, _, h, _⟩ <;> exact ⟨_, h⟩
  have ko : KeysOk μ (updK μ k .stale) := fun j x hj => by
    by_cases e : j = k
    · subst e; exact .inr (updK_same _ _)
    · exact .inl (by rw [updK_ne e]; exact hj)
  have own_ne : ∀ j b, owns (updK μ k .stale j) b → j ≠ k ∧ owns (μ j) b := fun j b hj => by
    by_cases e : j = k
    · subst e; rw [updK_same] at hj; exact hj.elim
    · rw [updK_ne e] at hj; exact ⟨e, hj⟩
  refine ⟨hσ.upd ko (fun _ h => h) (fun _ _ => rfl) (Nat.le_refl _) k .stale (fun j => lk_ins k j _ σ) (updK_same _ _) (fun j hj => updK_ne hj _) (fun j b hj ho => ⟨⟨Iff.rfl, rfl⟩, by rw [updK_same]; exact id⟩) (fun b hb => by rw [updK_same] at hb; exact hb.elim) hσ.slt,
    ⟨ko, fun _ h => h, fun _ _ => rfl, fun _ _ _ => rfl, fun j b hj => .inl ⟨j, (own_ne j b hj).2⟩, fun _ h => .inl h, Nat.le_refl _, rfl, rfl, rfl⟩, ?_⟩
  cases hx with
  | ms hm =>
    rcases hσ.blk k _ he with ⟨g1, g2⟩ | ⟨b, cap, cur, hμ, hl, hh, h1, h2, h3, hc⟩
    · rw [g2] at hm
      obtain ⟨_, _, a, rfl⟩ := hm
      exact .inl ⟨g1, a, by subst g1; rfl⟩
    · rw [hμ] at hm
      obtain ⟨a, c, rfl, hlc, ha, ho⟩ := hm
      obtain ⟨_, _, rfl, rfl⟩ := ho rfl
      have hob : owns (μ k) b := by rw [hμ]; rfl
      refine .inr ⟨b, ⟨c, cur, rfl, h1, h2, hh, h3, ⟨by rw [Array.length_toList (xs := cur), h3]; exact Nat.mul_le_mul_right _ h1, fun i p hp => ⟨(hc i p hp).1, fun j q v hq hv => (hc i p hp).2 j q v hq (by simpa using hv)⟩⟩⟩, hob, fun h => by simpa using hl.1 h, hσ.lt k b hob, fun j hj => ?_⟩
      obtain ⟨h4, h5⟩ := own_ne j b hj
      exact h4 (hσ.inj j k b h5 hob)

/-- Laying a row under a name. -/
theorem give_row (hσ : StoRep μ S w σ) {k : Nat} (hk : lk σ k = none) {e s b : Nat} {es : List PV} {v : Value} (h : FreshAt S w e s es v b) (hS : ¬ S b) (ho : ∀ j, ¬ owns (μ j) b) :
    ∃ m, owns (some m) b ∧ (∀ c, owns (some m) c → c = b) ∧ StoRep (updK μ k m) S w (ins k (.row true e s es) σ) ∧ RepA (updK μ k m) S w (.ms k 0 es.length true) v := by
  obtain ⟨cap, cur, rfl, h2, h3, h4, h5, h6⟩ := h
  have hlt : b < w.heap.size := (Array.getElem?_eq_some_iff.1 h4).1
  refine ⟨.row b cap s es.length, rfl, fun c hc => hc.symm, ?_, ms_new k _ _ s _ _ h2 _ rfl⟩
  exact hσ.upd (keysOk_new (hσ.dom k hk) _) (fun _ h => h) (fun _ _ => rfl) (Nat.le_refl _) k _ (fun j => lk_ins k j _ σ)
    (.inr ⟨b, cap, cur, updK_same _ _, ⟨fun h => absurd h hS, fun h => by cases h⟩, h4, h2, h3, h5, fun i p hp => ⟨(h6.2 i p hp).1, fun j q v hq hv => (h6.2 i p hp).2 j q v hq (by simpa using hv)⟩⟩)
    (fun j hj => updK_ne hj _) (fun j c hj hoj => ⟨⟨Iff.rfl, rfl⟩, fun h => by rw [updK_same] at h; obtain rfl : b = c := h; exact ho j hoj⟩) (fun c hc => by rw [updK_same] at hc; obtain rfl : b = c := hc; exact hlt) hσ.slt

theorem give_nil (hσ : StoRep μ S w σ) {k : Nat} (hk : lk σ k = none) {e s : Nat} {a : Option Addr} :
    StoRep (updK μ k .nil) S w (ins k (.row true e s []) σ) ∧ RepA (updK μ k .nil) S w (.ms k 0 0 true) (.slice a 0 0) :=
  ⟨hσ.upd (keysOk_new (hσ.dom k hk) _) (fun _ h => h) (fun _ _ => rfl) (Nat.le_refl _) k _ (fun j => lk_ins k j _ σ) (.inl ⟨rfl, updK_same _ _⟩)
    (fun j hj => updK_ne hj _) (fun j c hj hoj => ⟨⟨Iff.rfl, rfl⟩, fun h => by rw [updK_same] at h; exact h⟩) (fun c hc => by rw [updK_same] at hc; exact hc.elim) hσ.slt,
   .ms (by rw [updK_same]; exact ⟨rfl, rfl, a, rfl⟩)⟩

theorem isRow_spec {x : AV} {k : Nat} {e : TypeId} {s : Nat} {es : List PV} (h : isRow σ x = some (k, e, s, es)) : ∃ off len own, x = .ms k off len own ∧ lk σ k = some (.row true e s es) ∧ own = true := by
  unfold isRow at h
  split at h
  · split at h
    · split at h
      · simp only [Option.some.injEq, Prod.mk.injEq] at h
        obtain ⟨rfl, rfl, rfl, rfl⟩ := h
        exact ⟨_, _, _, rfl, by assumption, by assumption⟩
      · cases h
    · cases h
  · cases h

theorem finRV_ok : ∀ {xs : List AV} {vs : List Value} {σ σ' : Store} {μ : Nat → Option KS} {S : Nat → Prop} {rs : List RV}, StoRep μ S w σ → PW (RepA μ S w) xs vs → finRV σ xs = some (rs, σ') →
    ∃ μ' S' bs, StoRep μ' S' w σ' ∧ Ext μ S w μ' S' w ∧ RVs S' w rs vs bs ∧ ∀ b ∈ bs, ¬ S' b ∧ (∀ k, ¬ owns (μ' k) b) ∧ (∃ j, owns (μ j) b) ∧ b < w.heap.size
  | [], vs, σ, σ', μ, S, rs, hσ, hp, h => by
    have : vs = [] := List.eq_nil_of_length_eq_zero (by simpa using hp.1.symm)
    subst this
    simp [finRV] at h
    obtain ⟨rfl, rfl⟩ := h
    exact ⟨μ, S, [], hσ, Ext.refl _ _ _, .nil, fun b hb => by simp at hb⟩
  | x :: r, [], σ, σ', μ, S, rs, hσ, hp, h => by have := hp.1; simp at this
  | x :: r, v :: vs, σ, σ', μ, S, rs, hσ, hp, h => by
    have hx := hp.2 0 x v rfl rfl
    have hr : PW (RepA μ S w) r vs := ⟨by have := hp.1; simpa using this, fun j y u hy hu => hp.2 (j + 1) y u (by simpa using hy) (by simpa using hu)⟩
    simp only [finRV] at h
    split at h
    · rename_i k e s es hrow
      obtain ⟨off, len, own, rfl, he, hc⟩ := isRow_spec hrow
      split at h
      · rename_i rs' σ2 hf
        simp only [Option.some.injEq, Prod.mk.injEq] at h
        obtain ⟨rfl, rfl⟩ := h
        obtain ⟨t1, t2, t3⟩ := take_row hσ hx he hc
        obtain ⟨μ', S', bs, g1, g2, g3, g4⟩ := finRV_ok t1 (hr.mono fun y u h => h.mono t2.keys t2.st (fun _ _ => rfl)) hf
        have back : ∀ b ∈ bs, ¬ S' b ∧ (∀ k, ¬ owns (μ' k) b) ∧ (∃ j, owns (μ j) b) ∧ b < w.heap.size := fun b hb => by
          obtain ⟨q1, q2, ⟨j, q3⟩, q4⟩ := g4 b hb
          refine ⟨q1, q2, ?_, q4⟩
          rcases t2.own' j b q3 with h | h
          · exact h
          · omega
        rcases t3 with ⟨rfl, a, rfl⟩ | ⟨b, t4, t5, t6, t7, t8⟩
        · exact ⟨μ', S', bs, g1, t2.trans g2, .none g3, back⟩
        · refine ⟨μ', S', b :: bs, g1, t2.trans g2, .fresh (t4.mono g2.st (fun _ _ => rfl) rfl) (fun hb => ?_) g3, fun c hc => ?_⟩
          · obtain ⟨_, _, ⟨j, q3⟩, _⟩ := g4 b hb
            exact t8 j q3
          · rcases List.mem_cons.1 hc with rfl | hc
            · refine ⟨fun h => ?_, fun j hj => ?_, ⟨k, t5⟩, t7⟩
              · rcases g2.st' c h with h | ⟨j, h⟩ | h
                · exact t6 h
                · exact t8 j h
                · omega
              · rcases g2.own' j c hj with ⟨i, h⟩ | h
                · exact t8 i h
                · omega
            · exact back c hc
      · cases h
    · split at h
      · rename_i p ks hres
        split at h
        · rename_i rs' σ2 hf
          simp only [Option.some.injEq, Prod.mk.injEq] at h
          obtain ⟨rfl, rfl⟩ := h
          obtain ⟨f1, f2⟩ := freeze_ok hσ ks
          have hrep := resolve_rep hσ hx hres
          obtain ⟨μ', S', bs, g1, g2, g3, g4⟩ := finRV_ok f1 (hr.mono fun y u h => h.mono f2.keys f2.st (fun _ _ => rfl)) hf
          exact ⟨μ', S', bs, g1, f2.trans g2, .pv (hrep.mono g2.st (fun _ _ => rfl)) g3, g4⟩
        · cases h
      · cases h

theorem PW.cons {α β : Type} {R : α → β → Prop} {x : α} {v : β} {xs : List α} {vs : List β} (h : R x v) (h' : PW R xs vs) : PW R (x :: xs) (v :: vs) := by
  refine ⟨by simp [h'.1], fun j y u hy hu => ?_⟩
  cases j with
  | zero => simp at hy hu; subst hy; subst hu; exact h
  | succ j => exact h'.2 j y u (by simpa using hy) (by simpa using hu)

theorem giveBack_congr : ∀ (rs : List RV) (k : Nat) (σ σ' : Store), (∀ j, k ≤ j → (lk σ j = none ↔ lk σ' j = none)) → giveBack k σ rs = giveBack k σ' rs
  | [], k, σ, σ', _ => rfl
  | .pv p :: r, k, σ, σ', h => by simp only [giveBack, giveBack_congr r (k + 1) σ σ' (fun j hj => h j (by omega))]
  | .fresh e s es :: r, k, σ, σ', h => by
    simp only [giveBack, giveBack_congr r (k + 1) σ σ' (fun j hj => h j (by omega))]
    have := h k (Nat.le_refl _)
    cases h1 : lk σ k <;> cases h2 : lk σ' k <;> simp_all

theorem giveBack_ok : ∀ {rs : List RV} {vs : List Value} {bs : List Nat} {k : Nat} {σ : Store} {μ : Nat → Option KS} {xs : List AV} {m : List (Nat × Blk)}, StoRep μ S w σ → RVs S w rs vs bs → (∀ b ∈ bs, ¬ S b ∧ ∀ j, ¬ owns (μ j) b) → giveBack k σ rs = some (xs, m) →
    ∃ μ', StoRep μ' S w (applyMem σ m) ∧ PW (RepA μ' S w) xs vs ∧ KeysOk μ μ' ∧ ∀ j b, owns (μ' j) b → owns (μ j) b ∨ b ∈ bs
  | [], vs, bs, k, σ, μ, xs, m, hσ, hr, hb, h => by
    cases hr
    simp [giveBack] at h
    obtain ⟨rfl, rfl⟩ := h
    exact ⟨μ, hσ, PW.nil, KeysOk.refl μ, fun j b h => .inl h⟩
  | .pv p :: r, vs, bs, k, σ, μ, xs, m, hσ, hr, hb, h => by
    cases hr with
    | @pv _ v _ vs' _ hp hr =>
      simp only [giveBack] at h
      split at h
      · rename_i xs' m' h1
        simp only [Option.some.injEq, Prod.mk.injEq] at h
        obtain ⟨rfl, rfl⟩ := h
        obtain ⟨μ', g1, g2, g3, g4⟩ := giveBack_ok hσ hr hb h1
        exact ⟨μ', g1, PW.cons (.pv hp) g2, g3, g4⟩
      · cases h
  | .fresh e s es :: r, vs, bs, k, σ, μ, xs, m, hσ, hr, hb, h => by
    simp only [giveBack] at h
    split at h
    · rename_i xs' m' hk h1
      simp only [Option.some.injEq, Prod.mk.injEq] at h
      obtain ⟨rfl, rfl⟩ := h
      have cong : ∀ x : Blk, giveBack (k + 1) (ins k x σ) r = some (xs', m') := fun x => by
        rw [← h1]; exact giveBack_congr r (k + 1) _ _ fun j hj => by rw [lk_ins, if_neg (by omega)]
      cases hr with
      | @none _ _ a _ vs' _ hr =>
        obtain ⟨t1, t2⟩ := give_nil (e := e) (s := s) (a := a) hσ hk
        obtain ⟨μ', g1, g2, g3, g4⟩ := giveBack_ok t1 hr (fun b hb' => ⟨(hb b hb').1, fun j hj => by
          by_cases e : j = k
          · subst e; rw [updK_same] at hj; exact hj
          · rw [updK_ne e] at hj; exact (hb b hb').2 j hj⟩) (cong _)
        have ko := keysOk_new (hσ.dom k hk) .nil
        refine ⟨μ', g1, PW.cons (t2.mono g3 (fun _ h => h) (fun _ _ => rfl)) g2, ko.trans g3, fun j b hj => ?_⟩
        · rcases g4 j b hj with h | h
          · by_cases e : j = k
            · subst e; rw [updK_same] at h; exact h.elim
            · rw [updK_ne e] at h; exact .inl h
          · exact .inr h
      | @fresh _ _ b _ v _ vs' bs' hf hnb hr =>
        obtain ⟨mm, q1, q2, t1, t2⟩ := give_row hσ hk hf (hb b (by simp)).1 (hb b (by simp)).2
        obtain ⟨μ', g1, g2, g3, g4⟩ := giveBack_ok t1 hr (fun c hc => ⟨(hb c (List.mem_cons_of_mem _ hc)).1, fun j hj => by
          by_cases e : j = k
          · subst e; rw [updK_same] at hj; exact hnb (q2 c hj ▸ hc)
          · rw [updK_ne e] at hj; exact (hb c (List.mem_cons_of_mem _ hc)).2 j hj⟩) (cong _)
        have ko := keysOk_new (hσ.dom k hk) mm
        refine ⟨μ', g1, PW.cons (t2.mono g3 (fun _ h => h) (fun _ _ => rfl)) g2, ko.trans g3, fun j c hj => ?_⟩
        · rcases g4 j c hj with h | h
          · by_cases e : j = k
            · subst e; rw [updK_same] at h; rw [q2 c h]; exact .inr (by simp)
            · rw [updK_ne e] at h; exact .inl h
          · exact .inr (List.mem_cons_of_mem _ h)
    · cases h

/-! ### Frames -/
noncomputable def EnvRep (μ : Nat → Option KS) (S : Nat → Prop) (w : World) (env : Env) (tmps : Array Value) : Prop := ∀ t x, lk env t = some x → ∃ v, tmps[t]? = some v ∧ RepA μ S w x v

theorem EnvRep.ev {env : Env} {a : Act} (h : EnvRep μ S w env a.tmps) (x : Operand) : RepA μ S w (evE env x) (a.eval x) := by
  cases x with
  | tmp t =>
    simp only [evE, Act.eval]
    cases e : lk env t with
    | none => exact .bot _
    | some y =>
      obtain ⟨v, hv, hr⟩ := h t y e
      have : a.tmps.getD t undef = v := by simp [Array.getD_eq_getD_getElem?, hv]
      rw [this]
      exact hr
  | const v =>
    simp only [evE, Act.eval]
    split
    · rename_i p hp; exact .pv (ofValue_rep hp).1
    · exact .bot _
  | global g => exact .gp
  | func f =>
    have := Rep.fn (S := S) (w := w) (f := .func f) (as := []) (cs := []) (vs := []) (us := []) rfl (fun j q v h => by simp at h) rfl (fun j q v h => by simp at h)
    exact .pv this

theorem EnvRep.mono {env : Env} {tmps : Array Value} (h : EnvRep μ S w env tmps) (hk : KeysOk μ μ') (hS : ∀ b, S b → S' b) (hm : ∀ b, S b → w'.heap[b]? = w.heap[b]?) : EnvRep μ' S' w' env tmps := fun t x ht => by
  obtain ⟨v, h1, h2⟩ := h t x ht
  exact ⟨v, h1, h2.mono hk hS hm⟩

theorem EnvRep.put {env env' : Env} {a : Act} {nt : Nat} (h : EnvRep μ S w env a.tmps) (hn : a.tmps.size = nt) {dst : Option Nat} {x : AV} {v : Value} (hx : RepA μ S w x v) (hp : putE dst nt x env = some env') :
    EnvRep μ S w env' (a.put dst v).tmps ∧ (a.put dst v).tmps.size = nt := by
  unfold putE at hp
  split at hp
  · cases hp; exact ⟨h, hn⟩
  · rename_i d
    split at hp
    · rename_i hd
      cases hp
      refine ⟨fun t y ht => ?_, by simpa [Act.put] using hn⟩
      rw [lk_ins] at ht
      split at ht
      · rename_i e; subst e; cases ht
        exact ⟨v, by simp [Act.put, show d < a.tmps.size by omega], hx⟩
      · rename_i e
        obtain ⟨u, h1, h2⟩ := h t y ht
        exact ⟨u, by simp only [Act.put]; rw [Array.getElem?_setIfInBounds_ne e]; exact h1, h2⟩
    · cases hp

theorem lk_envOf : ∀ (xs : List AV) (i t : Nat) (x : AV), lk (envOf i xs) t = some x → i ≤ t ∧ xs[t - i]? = some x
  | [], i, t, x, h => by simp [envOf, lk_nil] at h
  | y :: r, i, t, x, h => by
    simp only [envOf, lk_cons] at h
    split at h
    · rename_i e; subst e; cases h; exact ⟨Nat.le_refl _, by simp⟩
    · obtain ⟨h1, h2⟩ := lk_envOf r (i + 1) t x h
      exact ⟨by omega, by rw [show t - i = (t - (i + 1)) + 1 by omega]; simpa using h2⟩

theorem EnvRep.enter {xs : List AV} {vs : List Value} {n : Nat} (h : PW (RepA μ S w) xs vs) : EnvRep μ S w (envOf 0 xs) (vs.toArray ++ Array.replicate n undef) := fun t x ht => by
  obtain ⟨_, h2⟩ := lk_envOf xs 0 t x ht
  simp only [Nat.sub_zero] at h2
  have hlt : t < vs.length := by rw [← h.1]; exact (List.getElem?_eq_some_iff.1 h2).1
  refine ⟨vs[t], ?_, h.2 t x _ h2 (List.getElem?_eq_getElem hlt)⟩
  rw [Array.getElem?_append_left (by simpa using hlt)]
  simp [hlt]
end Go.Mir
