/- What is told of a state is true of it (lemmas; conditions: what they say). -/
import Derived.Test.YthcmkipbdgndoaaGreatDoorNx20
set_option linter.all false
set_option linter.unusedVariables false
set_option linter.unusedSimpArgs false
set_option linter.unnecessarySimpa false
namespace Go.Mir
open Go Go.RowKit
variable {P : Program} {μ μ' : Nat → Option KS} {S S' : Nat → Prop} {w w' : World} {σ σ' : Store}
variable [Globs P]

theorem HK.get_le {h : HK} {p : PV} {x : h.T} (hx : h.get p = some x) : PVLe p (h.mk x) := by
  cases h with
  | pv => obtain rfl : p = x := Option.some.inj hx; exact .refl _
  | int k =>
    cases p with
    | lit v =>
      cases v with
      | int k' n =>
        simp only [HK.get] at hx
        split at hx
        · rename_i e; subst e; obtain rfl : n = x := Option.some.inj hx; exact .refl _
        · cases hx
      | _ => cases hx
    | _ => cases hx
  | bool =>
    cases p with
    | lit v =>
      cases v with
      | bool b => obtain rfl : b = x := Option.some.inj hx; exact .refl _
      | _ => cases hx
    | _ => cases hx
  | str =>
    cases p with
    | lit v =>
      cases v with
      | string s => obtain rfl : s = x := Option.some.inj hx; exact .refl _
      | _ => cases hx
    | _ => cases hx
  | flt k =>
    cases p with
    | lit v =>
      cases v with
      | float k' n =>
        simp only [HK.get] at hx
        split at hx
        · rename_i e; subst e; obtain rfl : n = x := Option.some.inj hx; exact .refl _
        · cases hx
      | _ => cases hx
    | _ => cases hx
  | sl =>
    cases p with
    | sl f es => obtain rfl : es = x := Option.some.inj hx; exact PVLe.flag f es
    | _ => cases hx

theorem HT.get_le : ∀ {hs : List HK} {ps : List PV} {x : HT hs}, HT.get hs ps = some x → PVsLe ps (HT.mk hs x)
  | [], ps, x, h => by
    cases ps with
    | nil => exact ⟨rfl, fun j p q hp => by simp at hp⟩
    | cons p r => cases h
  | k :: r, ps, x, h => by
    cases ps with
    | nil => cases h
    | cons p ps =>
      simp only [HT.get] at h
      split at h
      · rename_i a b ha hb
        cases h
        obtain ⟨h1, h2⟩ := HT.get_le hb
        refine ⟨by simp only [HT.mk, List.length_cons, h1], fun j p' q hp hq => ?_⟩
        cases j with
        | zero => simp [HT.mk] at hp hq; subst hp; subst hq; exact HK.get_le ha
        | succ j => exact h2 j p' q (by simpa using hp) (by simpa [HT.mk] using hq)
      · cases h

theorem CT.get_rep (hσ : StoRep μ S w σ) : ∀ {cs : List CH} {xs : List AV} {ps : List Prop} {v : CT cs}, CT.get σ cs xs = some (ps, v) → (∀ p ∈ ps, p) → xs.length = (CT.mk cs v).length ∧ ∀ (j : Nat) (x y : AV) (u : Value), xs[j]? = some x → (CT.mk cs v)[j]? = some y → RepA μ S w x u → RepA μ S w y u
  | [], xs, ps, v, h, _ => by
    cases xs with
    | nil => exact ⟨rfl, fun j x y u hx => by simp at hx⟩
    | cons x r => cases h
  | .h hk :: r, xs, ps, v, h, hp => by
    cases xs with
    | nil => cases h
    | cons x xs =>
      cases x <;> first | (cases h; done) | skip
      rename_i p
      simp only [CT.get] at h
      split at h
      · rename_i a ps' y ha hb
        cases h
        obtain ⟨h1, h2⟩ := CT.get_rep hσ hb hp
        refine ⟨by simp only [CT.mk, List.length_cons, h1], fun j x y u hx hy hu => ?_⟩
        cases j with
        | zero => simp [CT.mk] at hx hy; subst hx; subst hy; exact hu.weaken (.pv (HK.get_le ha))
        | succ j => exact h2 j x y u (by simpa using hx) (by simpa [CT.mk] using hy) hu
      · cases h
  | .k z :: r, xs, ps, v, h, hp => by
    cases xs with
    | nil => cases h
    | cons x xs =>
      simp only [CT.get] at h
      split at h
      · rename_i ps' y hb
        cases h
        obtain ⟨h1, h2⟩ := CT.get_rep hσ hb (fun p hm => hp p (List.mem_cons_of_mem _ hm))
        have e : x = z := hp _ List.mem_cons_self
        refine ⟨by simp only [CT.mk, List.length_cons, h1], fun j x' y u hx hy hu => ?_⟩
        cases j with
        | zero => simp [CT.mk] at hx hy; subst hx; subst hy; subst e; exact hu
        | succ j => exact h2 j x' y u (by simpa using hx) (by simpa [CT.mk] using hy) hu
      · cases h
  | .r kn e sz :: r, xs, ps, v, h, hp => by
    have hx : ∃ k len xs', xs = .ms k 0 len true :: xs' := by
      cases xs with
      | nil => cases h
      | cons x xs' =>
        cases x <;> first | (cases h; done) | skip
        rename_i k off len own
        cases off with
        | succ n => cases h
        | zero => cases own with
          | false => cases h
          | true => exact ⟨k, len, xs', rfl⟩
    obtain ⟨k, len, xs', rfl⟩ := hx
    · simp only [CT.get] at h
      split at h
      · rename_i hk
        subst hk
        split at h
        · rename_i e2 sz2 es hr
          split at h
          · rename_i hc
            obtain ⟨rfl, rfl⟩ := hc
            split at h
            · rename_i ps' y hb
              cases h
              obtain ⟨h1, h2⟩ := CT.get_rep hσ hb hp
              refine ⟨by simp only [CT.mk, List.length_cons, h1], fun j x y u hx hy hu => ?_⟩
              cases j with
              | zero =>
                simp [CT.mk] at hx hy; subst hx; subst hy
                cases hu with
                | ms hm =>
                  obtain ⟨_, rfl⟩ := own_whole hσ hr hm
                  exact .ms hm
              | succ j => exact h2 j x y u (by simpa using hx) (by simpa [CT.mk] using hy) hu
            · cases h
          · cases h
        · cases h
      · cases h
theorem CT.rows_ok (hσ : StoRep μ S w σ) : ∀ {cs : List CH} {xs : List AV} {ps : List Prop} {v : CT cs} {σ1 : Store}, CT.get σ cs xs = some (ps, v) → (∀ k b, lk σ1 k = some b → BlkRep μ S w k b) →
    (∀ k b, lk (CT.rows cs v σ1) k = some b → BlkRep μ S w k b) ∧ ∀ k, (k ∈ CH.rowNames cs ∨ lk σ1 k ≠ none) → lk (CT.rows cs v σ1) k ≠ none
  | [], xs, ps, v, σ1, h, h1 => ⟨h1, fun k hk => by
      rcases hk with hk | hk
      · cases hk
      · exact hk⟩
  | .h hk :: r, xs, ps, v, σ1, h, h1 => by
    cases xs with
    | nil => cases h
    | cons x xs =>
      cases x <;> first | (cases h; done) | skip
      simp only [CT.get] at h
      split at h
      · rename_i a ps' y ha hb
        cases h
        exact CT.rows_ok (cs := r) (v := y) hσ hb h1
      · cases h
  | .k z :: r, xs, ps, v, σ1, h, h1 => by
    cases xs with
    | nil => cases h
    | cons x xs =>
      simp only [CT.get] at h
      split at h
      · rename_i ps' y hb
        cases h
        exact CT.rows_ok (cs := r) (v := v) hσ hb h1
      · cases h
  | .r kn e sz :: r, xs, ps, v, σ1, h, h1 => by
    have hx : ∃ k len xs', xs = .ms k 0 len true :: xs' := by
      cases xs with
      | nil => cases h
      | cons x xs' =>
        cases x <;> first | (cases h; done) | skip
        rename_i k off len own
        cases off with
        | succ n => cases h
        | zero => cases own with
          | false => cases h
          | true => exact ⟨k, len, xs', rfl⟩
    obtain ⟨k, len, xs', rfl⟩ := hx
    · simp only [CT.get] at h
      split at h
      · rename_i hk
        subst hk
        split at h
        · rename_i e2 sz2 es hr
          split at h
          · rename_i hc
            obtain ⟨rfl, rfl⟩ := hc
            split at h
            · rename_i ps' y hb
              cases h
              obtain ⟨g1, g2⟩ := CT.rows_ok hσ hb h1
              refine ⟨fun j b hj => ?_, fun j hj => ?_⟩
              · simp only [CT.rows] at hj
                rw [lk_ins] at hj
                split at hj
                · rename_i e; cases hj; rw [← e]; exact hσ.blk _ _ hr
                · exact g1 j b hj
              · simp only [CT.rows]
                rw [lk_ins]
                split
                · simp
                · rename_i hne
                  refine g2 j ?_
                  rcases hj with hj | hj
                  · rcases List.mem_cons.1 hj with e | hj
                    · exact absurd e.symm hne
                    · exact .inl hj
                  · exact .inr hj
            · cases h
          · cases h
        · cases h
      · cases h

theorem EnvRep.ins {env : Env} {tmps : Array Value} {t : Nat} {x : AV} {v : Value} (h : EnvRep μ S w env tmps) (hv : tmps[t]? = some v) (hr : RepA μ S w x v) : EnvRep μ S w (Mir.ins t x env) tmps := fun j y hj => by
  rw [lk_ins] at hj
  split at hj
  · subst_vars; cases hj; exact ⟨v, hv, hr⟩
  · exact h j y hj
theorem EnvRep.nil {tmps : Array Value} : EnvRep μ S w [] tmps := fun j y hj => by cases hj

theorem insW_ok {env env0 : Env} {tmps : Array Value} (hσ : StoRep μ S w σ) (he : EnvRep μ S w env tmps) {k e sz : Nat} {es : List PV} (hr : lk σ k = some (.row true e sz es)) (h0 : EnvRep μ S w env0 tmps) :
    ∀ {ts : List Nat}, ts.all (isMs env k) = true → EnvRep μ S w (insW k es.length ts env0) tmps
  | [], _ => h0
  | t :: ts, h => by
    simp only [List.all_cons, Bool.and_eq_true] at h
    have ih := insW_ok hσ he hr h0 h.2
    have h1 := h.1
    unfold isMs at h1
    split at h1
    · rename_i k' len hp
      obtain rfl := Nat.eq_of_beq_eq_true h1
      obtain ⟨u, hu, hrep⟩ := he t _ hp
      refine ih.ins hu ?_
      cases hrep with
      | ms hm =>
        obtain ⟨_, rfl⟩ := own_whole hσ hr hm
        exact .ms hm
    · cases h1
theorem inst_ok {c0 : Nat} {s : St} {tmps : Array Value} (hσ : StoRep μ S w s.sto) (he : EnvRep μ S w s.env tmps) : ∀ {l : List SI} {ps : List Prop} {v : VT l}, getV c0 s.env s.sto l = some (ps, v) → (∀ p ∈ ps, p) →
    EnvRep μ S w (instE c0 l v) tmps ∧ (∀ k b, lk (instS c0 l v) k = some b → BlkRep μ S w k b) ∧ ∀ k, listed c0 k l = true → lk (instS c0 l v) k ≠ none
  | [], ps, v, _, _ => ⟨.nil, fun k b h => (by cases h), fun k h => (by cases h)⟩
  | .c t hk :: r, ps, v, h, hp' => by
    simp only [getV] at h
    split at h
    · rename_i p hp
      split at h
      · rename_i x ps y hx hy
        cases h
        obtain ⟨h1, h2, h3⟩ := inst_ok hσ he hy hp'
        obtain ⟨u, hu, hr⟩ := he t _ hp
        exact ⟨h1.ins hu (hr.weaken (.pv (HK.get_le hx))), h2, h3⟩
      · cases h
    · cases h
  | .a t hs :: r, ps, v, h, hp' => by
    simp only [getV] at h
    split at h
    · rename_i qs hp
      split at h
      · rename_i x ps y hx hy
        cases h
        obtain ⟨h1, h2, h3⟩ := inst_ok hσ he hy hp'
        obtain ⟨u, hu, hr⟩ := he t _ hp
        exact ⟨h1.ins hu (hr.weaken (.pv (.agg (HT.get_le hx).1 (HT.get_le hx).2))), h2, h3⟩
      · cases h
    · cases h
  | .p t off hs :: r, ps, v, h, hp' => by
    simp only [getV] at h
    split at h
    · rename_i qs off' hp
      split at h
      · rename_i ho
        subst ho
        split at h
        · rename_i x ps y hx hy
          cases h
          obtain ⟨h1, h2, h3⟩ := inst_ok hσ he hy hp'
          obtain ⟨u, hu, hr⟩ := he t _ hp
          exact ⟨h1.ins hu (hr.weaken (.pv (.ip (HT.get_le hx).1 (HT.get_le hx).2))), h2, h3⟩
        · cases h
      · cases h
    · cases h
  | .r t e sz :: r, ps, v, h, hp' => by
    simp only [getV] at h
    split at h
    · rename_i k len hp
      split at h
      · rename_i hk
        subst hk
        split at h
        · rename_i e' sz' es hr
          split at h
          · rename_i hc
            obtain ⟨rfl, rfl⟩ := hc
            split at h
            · rename_i ps y hy
              cases h
              obtain ⟨h1, h2, h3⟩ := inst_ok hσ he hy hp'
              obtain ⟨u, hu, hrep⟩ := he t _ hp
              refine ⟨h1.ins hu ?_, fun k b hb => ?_, fun k hk => ?_⟩
              · cases hrep with
                | ms hm =>
                  obtain ⟨_, rfl⟩ := own_whole hσ hr hm
                  exact .ms hm
              · simp only [instS] at hb
                rw [lk_ins] at hb
                split at hb
                · rename_i e; cases hb; rw [← e]; exact hσ.blk _ _ hr
                · exact h2 k b hb
              · simp only [instS, lk_ins]
                split
                · simp
                · rename_i hne
                  simp only [listed, Bool.or_eq_true, beq_iff_eq] at hk
                  rcases hk with hk | hk
                  · exact absurd hk.symm hne
                  · exact h3 k hk
            · cases h
          · cases h
        · cases h
      · cases h
    · cases h
  | .k t x :: r, ps, v, h, hp' => by
    simp only [getV] at h
    split at h
    · rename_i y ps z hp hy
      cases h
      obtain ⟨h1, h2, h3⟩ := inst_ok hσ he hy (fun p hm => hp' p (List.mem_cons_of_mem _ hm))
      have e : y = x := hp' _ List.mem_cons_self
      obtain ⟨u, hu, hr⟩ := he t _ hp
      exact ⟨h1.ins hu (e ▸ hr), h2, h3⟩
    · cases h
  | .box k live cs :: r, ps, v, h, hp' => by
    simp only [getV] at h
    split at h
    · rename_i live' xs hp
      split at h
      · rename_i e
        subst e
        split at h
        · rename_i ps x qs y hx hy
          cases h
          obtain ⟨h1, h2, h3⟩ := inst_ok hσ he hy (fun p hm => hp' p (List.mem_append_right _ hm))
          obtain ⟨g1, g2⟩ := CT.get_rep hσ hx (fun p hm => hp' p (List.mem_append_left _ hm))
          obtain ⟨r1, r2⟩ := CT.rows_ok hσ hx h2
          refine ⟨h1, fun k' b hb => ?_, fun k' hk => ?_⟩
          · simp only [instS] at hb
            rw [lk_ins] at hb
            split at hb
            · rename_i e
              subst e
              cases hb
              obtain ⟨b, cur, e0, m1, m2, m3, m4, m5⟩ := hσ.blk k _ hp
              refine ⟨b, cur, e0, m1, m2, m3, by rw [m4, g1], fun j z u hz hu => ?_⟩
              have hj : j < xs.length := by rw [g1]; exact (List.getElem?_eq_some_iff.1 hz).1
              have hx' := List.getElem?_eq_getElem hj
              exact g2 j _ z u hx' hz (m5 j _ u hx' hu)
            · exact r1 k' b hb
          · simp only [instS, lk_ins]
            split
            · simp
            · rename_i hne
              simp only [listed, Bool.or_eq_true, beq_iff_eq] at hk
              rcases hk with (hk | hk) | hk
              · exact absurd hk.symm hne
              · exact r2 k' (.inl (by simpa using hk))
              · exact r2 k' (.inr (h3 k' hk))
        · cases h
      · cases h
    · cases h
  | .lp k b :: r, ps, v, h, hp' => by
    simp only [getV] at h
    split at h
    · rename_i b' hp
      have hv : (if b' = b then getV c0 s.env s.sto r else none) = (some (ps, (v : VT r)) : Option (List Prop × VT r)) := h
      clear h
      split at hv
      · rename_i e
        subst e
        obtain ⟨h1, h2, h3⟩ := inst_ok hσ he hv hp'
        refine ⟨h1, fun k' b hb => ?_, fun k' hk => ?_⟩
        · simp only [instS] at hb
          rw [lk_ins] at hb
          split at hb
          · rename_i e; subst e; cases hb; exact hσ.blk _ _ hp
          · exact h2 k' b hb
        · simp only [instS, lk_ins]
          split
          · simp
          · rename_i hne
            simp only [listed, Bool.or_eq_true, beq_iff_eq] at hk
            rcases hk with hk | hk
            · exact absurd hk.symm hne
            · exact h3 k' hk
      · cases hv
    · cases h
  | .it k :: r, ps, v, h, hp' => by
    simp only [getV] at h
    split at h
    · rename_i s pos hp
      split at h
      · rename_i ps y hy
        cases h
        obtain ⟨h1, h2, h3⟩ := inst_ok hσ he hy hp'
        refine ⟨h1, fun k' b hb => ?_, fun k' hk => ?_⟩
        · simp only [instS] at hb
          rw [lk_ins] at hb
          split at hb
          · rename_i e; subst e; cases hb; exact hσ.blk _ _ hp
          · exact h2 k' b hb
        · simp only [instS, lk_ins]
          split
          · simp
          · rename_i hne
            simp only [listed, Bool.or_eq_true, beq_iff_eq] at hk
            rcases hk with hk | hk
            · exact absurd hk.symm hne
            · exact h3 k' hk
      · cases h
    · cases h
  | .w k e sz ts :: r, ps, v, h, hp' => by
    simp only [getV] at h
    split at h
    · rename_i e' sz' es hp
      split at h
      · rename_i hc
        obtain ⟨rfl, rfl, hts⟩ := hc
        split at h
        · rename_i ps y hy
          cases h
          obtain ⟨h1, h2, h3⟩ := inst_ok hσ he hy hp'
          refine ⟨insW_ok hσ he hp h1 hts, fun k' b hb => ?_, fun k' hk => ?_⟩
          · simp only [instS] at hb
            rw [lk_ins] at hb
            split at hb
            · rename_i e; subst e; cases hb; exact hσ.blk _ _ hp
            · exact h2 k' b hb
          · simp only [instS, lk_ins]
            split
            · simp
            · rename_i hne
              simp only [listed, Bool.or_eq_true, beq_iff_eq] at hk
              rcases hk with hk | hk
              · exact absurd hk.symm hne
              · exact h3 k' hk
        · cases h
      · cases h
    · cases h

theorem allP_spec : ∀ {ps : List Prop} {K : Prop}, allP ps K → (∀ p ∈ ps, p) ∧ K
  | [], K, h => ⟨fun p hp => by simp at hp, h⟩
  | p :: ps, K, h => by
    obtain ⟨h1, h2⟩ := allP_spec (ps := ps) h.2
    refine ⟨fun q hq => ?_, h2⟩
    rcases List.mem_cons.1 hq with e | hq
    · rw [e]; exact h.1
    · exact h1 q hq

theorem all_lk {f : Nat → Bool} : ∀ {σ : Store}, σ.all (fun x => f x.1) = true → ∀ k, lk σ k ≠ none → f k = true
  | [], _, k, h => absurd rfl h
  | (j, y) :: r, h1, k, h2 => by
    simp only [List.all_cons, Bool.and_eq_true] at h1
    rw [lk_cons] at h2
    split at h2
    · subst_vars; exact h1.1
    · exact all_lk h1.2 k h2

/-- What absorb tells. -/
theorem absorb_ok {B : List Nat} {c0 nt : Nat} {l : List SI} {s : St} {ps : List Prop} {v : VT l} {tmps : Array Value} (h : absorb B c0 nt l s = some (ps, v)) (hp : ∀ p ∈ ps, p) (hσ : StoRep μ S w s.sto) (he : EnvRep μ S w s.env tmps) :
    s.nt = nt ∧ ∃ μ' S', StoRep μ' S' w (instSt c0 nt l v).sto ∧ EnvRep μ' S' w (instSt c0 nt l v).env tmps ∧ ExtB B μ S w μ' S' w := by
  unfold absorb at h
  split at h
  · rename_i hnt
    split at h
    · rename_i hB
      obtain ⟨μ9, S9, n1, n2, n3⟩ : ∃ μ9 S9, StoRep μ9 S9 w (pre B c0 l s).sto ∧ EnvRep μ9 S9 w (pre B c0 l s).env tmps ∧ ExtB B μ S w μ9 S9 w := by
        unfold pre
        split
        · exact ⟨μ, S, hσ, he, (Ext.refl μ S w).toB B⟩
        · exact norm_ok (fun k hk => by simp [staleT, hk]) hσ he
      generalize pre B c0 l s = s9 at h n1 n2
      unfold absorb0 at h
      split at h
      · rename_i hall
        obtain ⟨μ0, k1, k2⟩ := renCells_ok (l := rensOf l) n1
        obtain ⟨μ', S', g1, g2, g3⟩ := norm_ok (keep := fun k => (keptOf l).contains k) (B := B) (L := slotsOf l) (R := rowsOf l) (c0 := c0) (s := { s9 with sto := renCells (rensOf l) s9.sto }) (fun k hk => List.all_eq_true.1 hB k hk) k1 (n2.mono k2.keys k2.st (fun _ _ => rfl))
        obtain ⟨h1, h2, h3⟩ := inst_ok g1 g2 h hp
        refine ⟨hnt, μ', S', ⟨h2, fun k hk => ?_, g1.inj, g1.lt, g1.slt⟩, h1, n3.trans ((k2.toB B).trans g3)⟩
        refine g1.dom k (Classical.byContradiction fun hn => ?_)
        have := all_lk (f := fun k => listed c0 k l) hall k hn
        exact h3 k this hk
      · cases h
    · cases h
  · cases h

/-! ### Lengths -/
theorem len_pv {f : Bool} {es : List PV} {v : Value} (h : Rep S w (.sl f es) v) : es.length ≤ 9223372036854775807 := by
  cases h with
  | sl s f hn => have : maxLen = 9223372036854775807 := by decide
                 omega
theorem lensB_ok {env : Env} (σ : Store) {K : Prop} : ∀ {xs : List AV}, (∀ x ∈ xs, ∃ v, RepA μ S w x v) → lensX.lensB env σ xs K → K
  | [], _, h => h
  | x :: r, hr, h => by
    have ih := lensB_ok (env := env) σ (K := K) (xs := r) (fun y hy => hr y (List.mem_cons_of_mem _ hy))
    unfold lensX.lensB at h
    split at h
    · rename_i heq; cases heq
    · rename_i es heq
      cases heq
      obtain ⟨v, hv⟩ := hr _ List.mem_cons_self
      cases hv with | pv hv => exact ih (h (len_pv hv))
    · rename_i heq
      cases heq
      exact ih h
theorem lensX_ok {env : Env} {tmps : Array Value} {K : Prop} (hσ : StoRep μ S w σ) (he : EnvRep μ S w env tmps) : ∀ {ts : List Nat}, lensX env σ ts K → K
  | [], h => h
  | t :: ts, h => by
    have ih := lensX_ok (K := K) hσ he (ts := ts)
    unfold lensX at h
    split at h
    · rename_i es ht
      obtain ⟨v, _, hr⟩ := he t _ ht
      cases hr with | pv hr => exact ih (h (len_pv hr))
    · split at h
      · rename_i hr
        refine ih (h ?_)
        have hm : maxLen = 9223372036854775807 := by decide
        rcases hσ.blk _ _ hr with ⟨h1, _⟩ | ⟨b, cap, cur, _, _, _, h1, h2, _⟩
        · rw [h1]; exact Nat.zero_le _
        · omega
      · exact h.elim
    · rename_i k off hk
      split at h
      · rename_i live cs hr
        refine ih (lensB_ok (μ := μ) (S := S) (w := w) σ (fun x hx => ?_) h)
        obtain ⟨b, cur, e0, m1, m2, m3, m4, m5⟩ := hσ.blk _ _ hr
        obtain ⟨j, hj, rfl⟩ := List.getElem_of_mem hx
        exact ⟨cur[j], m5 j _ _ (List.getElem?_eq_getElem hj) (Array.getElem?_eq_getElem (by omega))⟩
      · exact h.elim
    · rename_i ps ht
      obtain ⟨v, _, hr⟩ := he t _ ht
      refine ih (lensB_ok (μ := μ) (S := S) (w := w) σ (fun x hx => ?_) h)
      obtain ⟨p, hp, rfl⟩ := List.mem_map.1 hx
      obtain ⟨j, hj, rfl⟩ := List.getElem_of_mem hp
      cases hr with
      | pv hr =>
        cases hr with
        | @agg _ vs hl hr => exact ⟨vs[j]'(by omega), .pv (hr j _ _ (List.getElem?_eq_getElem hj) (List.getElem?_eq_getElem (by omega)))⟩
    · exact h.elim
end Go.Mir
