/- Maps, append, conversions (lemmas; conditions: what they say). -/
import Derived.Test.YthcmkipbdgndoaaGreatDoorNx8
set_option linter.all false
set_option linter.unusedVariables false
set_option linter.unusedSimpArgs false
set_option linter.unnecessarySimpa false
namespace Go.Mir
open Go Go.RowKit
variable {P : Program} {μ μ' : Nat → Option KS} {S S' : Nat → Prop} {w w' : World} {σ σ' : Store}

theorem run_checkKey {kt : TypeId} {key : Value} (h : kindKey P kt key = true) (em : Bool) (n : Nat) (w : World) : (Instr.checkKey em (n + 1) kt key).run P w = .ok () w := by
  unfold kindKey at h
  split at h
  · rename_i h1; simp [Instr.checkKey, run_underlying h1]
  · rename_i h1; simp [Instr.checkKey, run_underlying h1]
  · rename_i h1; simp [Instr.checkKey, run_underlying h1]
  · cases h

theorem sameNow_eq {kt : TypeId} {key j : Value} {d : TypeDesc} (h : kindKey P kt key = true) (hd : P.underlying kt = some d) : Instr.sameNow d key j = keyEq key j := by
  unfold kindKey at h
  split at h
  · rename_i h1; rw [h1] at hd; cases hd; cases j <;> rfl
  · rename_i h1; rw [h1] at hd; cases hd; cases j <;> rfl
  · rename_i h1; rw [h1] at hd; cases hd; cases j <;> rfl
  · cases h

theorem kindKey_und {kt : TypeId} {key : Value} (h : kindKey P kt key = true) : ∃ d, P.underlying kt = some d := by
  unfold kindKey at h
  split at h
  · exact ⟨_, by assumption⟩
  · exact ⟨_, by assumption⟩
  · exact ⟨_, by assumption⟩
  · cases h

theorem findNow_M {α : Type} {R : α → Value → Prop} {kt : TypeId} {key : Value} {d : TypeDesc} (h : kindKey P kt key = true) (hd : P.underlying kt = some d) : ∀ (es : List (Value × α)) (ents : List MapEntry) (i : Nat) (r : Option α), ents.length = es.length →
    (∀ (i : Nat) (e : Value × α) (m : MapEntry), es[i]? = some e → ents[i]? = some m → m.key = e.1 ∧ R e.2 m.val) → findM key es = some r →
    (r = none ∧ Instr.findNow d key ents i = some none) ∨ ∃ p v n, r = some p ∧ Instr.findNow d key ents i = some (some (n, v)) ∧ R p v
  | [], ents, i, r, hl, _, hf => by
    have : ents = [] := List.eq_nil_of_length_eq_zero (by simpa using hl)
    subst this
    simp [findM] at hf; subst hf
    exact .inl ⟨rfl, rfl⟩
  | e :: es, [], i, r, hl, _, _ => by simp at hl
  | e :: es, m :: ents, i, r, hl, hr, hf => by
    obtain ⟨h1, h2⟩ := hr 0 e m rfl rfl
    simp only [findM] at hf
    simp only [Instr.findNow, h1, sameNow_eq h hd]
    split at hf
    · rename_i he
      cases hf
      exact .inr ⟨_, m.val, i, rfl, by rw [he], h2⟩
    · rename_i he
      rw [he]
      exact findNow_M (R := R) h hd es ents (i + 1) r (by simpa using hl) (fun j e m h3 h4 => hr (j + 1) e m (by simpa using h3) (by simpa using h4)) hf
    · cases hf

theorem run_findKey {α : Type} {R : α → Value → Prop} {kt : TypeId} {key : Value} (h : kindKey P kt key = true) {es : List (Value × α)} {ents : Array MapEntry} {r : Option α} (hl : ents.size = es.length)
    (hr : ∀ (i : Nat) (e : Value × α) (m : MapEntry), es[i]? = some e → ents[i]? = some m → m.key = e.1 ∧ R e.2 m.val) (hf : findM key es = some r) (w1 : World) :
    (r = none ∧ (Instr.findKey kt key ents.toList).run P w1 = .ok none w1) ∨ ∃ p v n, r = some p ∧ (Instr.findKey kt key ents.toList).run P w1 = .ok (some (n, v)) w1 ∧ R p v := by
  obtain ⟨d, hd⟩ := kindKey_und h
  rcases findNow_M (R := R) h hd es ents.toList 0 r (by simpa using hl) (fun i e m h1 h2 => hr i e m h1 (by simpa using h2)) hf with ⟨h1, h2⟩ | ⟨p, v, n, h1, h2, h3⟩
  · exact .inl ⟨h1, by simp [Instr.findKey, run_underlying hd, h2]⟩
  · exact .inr ⟨p, v, n, h1, by simp [Instr.findKey, run_underlying hd, h2], h3⟩

theorem lookupE_ok (hσ : StoRep μ S w σ) {t : TypeId} {x ix : AV} {v vi : Value} {ok : Bool} {e : Eff} (hx : RepA μ S w x v) (hi : RepA μ S w ix vi) (h : lookupE P t x ix ok σ = some e) :
    ∃ u, (Instr.lookup t v vi ok).run P w = .ok u w ∧ RepA μ S w e.val u ∧ e.mem = [] := by
  unfold lookupE at h
  split at h
  · rename_i kt et key ht
    cases hi with
    | pv hp =>
      cases hp with
      | lit _ =>
        split at h
        · rename_i hk
          split at h
          · rename_i es ks z hm hz
            obtain ⟨i, zv, _, _, hov, hzr⟩ := zr_run hz
            -- what the map holds
            have hes : ∃ ents : Array MapEntry, ents.size = es.length ∧ (∀ (i : Nat) (e : Value × PV) (m : MapEntry), es[i]? = some e → ents[i]? = some m → m.key = e.1 ∧ Rep S w e.2 m.val) ∧
                ((v = .map none ∧ ents = #[]) ∨ ∃ r clk, v = .map (some r) ∧ w.heap[r]? = some (.map ents clk)) := by
              split at hm
              · cases hm
                cases hx with
                | pv hp =>
                  cases hp with
                  | @map _ b ents clk hS hb hl hk hr =>
                    exact ⟨ents, hl, fun i e m h1 h2 => ⟨hk i e m h1 h2, hr i e m h1 h2⟩, .inr ⟨b, clk, rfl, hb⟩⟩
              · cases hm
                cases hx with
                | pv hp => cases hp with | lit _ => exact ⟨#[], rfl, fun i e m h1 => by simp at h1, .inl ⟨rfl, rfl⟩⟩
              · rename_i k
                split at hm
                · rename_i live es' he
                  cases hm
                  obtain ⟨b, ents, clk, hμ, hl, hh, hsz, hc⟩ := hσ.blk k _ he
                  cases hx with
                  | mm hm' =>
                    rw [hμ] at hm'
                    obtain rfl : v = _ := hm'
                    exact ⟨ents, hsz, hc, .inr ⟨b, clk, rfl, hh⟩⟩
                · cases hm
              · cases hm
            obtain ⟨ents, hl, hr, hrun⟩ := hes
            split at h
            · rename_i p hf
              cases h
              rcases run_findKey (R := Rep S w) hk hl hr hf w with ⟨h1, _⟩ | ⟨p', u, n, h1, h2, h3⟩
              · cases h1
              · cases h1
                refine ⟨if ok then .tuple #[u, .bool true] else u, ?_, ?_, rfl⟩
                · rcases hrun with ⟨rfl, rfl⟩ | ⟨r, clk, rfl, hh⟩
                  · simp [Instr.lookup, run_underlying ht, run_checkKey hk, h2]
                  · simp [Instr.lookup, run_underlying ht, run_checkKey hk, h2, getObj, Sem.run, hh]
                · cases ok
                  · exact .pv h3
                  · refine .pv (Rep.tuple (cs := [p, .lit (.bool true)]) (vs := [u, .bool true]) rfl fun j q v hq hv => ?_)
                    match j with
                    | 0 => simp at hq hv; subst hq; subst hv; exact h3
                    | 1 => simp at hq hv; subst hq; subst hv; exact .lit rfl
                    | j + 2 => simp at hq
            · rename_i hf
              cases h
              rcases run_findKey (R := Rep S w) hk hl hr hf w with ⟨_, h2⟩ | ⟨p', u, n, h1, _, _⟩
              · refine ⟨if ok then .tuple #[zv, .bool false] else zv, ?_, ?_, rfl⟩
                · rcases hrun with ⟨rfl, rfl⟩ | ⟨r, clk, rfl, hh⟩
                  · simp [Instr.lookup, run_underlying ht, run_checkKey hk, h2, hzr]
                  · simp [Instr.lookup, run_underlying ht, run_checkKey hk, h2, getObj, Sem.run, hh, hzr]
                · obtain ⟨q1, _⟩ := ofValue_rep (S := S) (w := w) hov
                  cases ok
                  · exact .pv q1
                  · refine .pv (Rep.tuple (cs := [z, .lit (.bool false)]) (vs := [zv, .bool false]) rfl fun j q v hq hv => ?_)
                    match j with
                    | 0 => simp at hq hv; subst hq; subst hv; exact q1
                    | 1 => simp at hq hv; subst hq; subst hv; exact .lit rfl
                    | j + 2 => simp at hq
              · cases h1
            · cases h
          · cases h
        · cases h
  · cases h

theorem lookupF_ok (hσ : StoRep μ S w σ) {t : TypeId} {x ix : AV} {v vi : Value} {ok : Bool} {e : Eff} (hx : RepA μ S w x v) (hi : RepA μ S w ix vi) (h : lookupF P t x ix ok σ = some e) :
    ∃ u, (Instr.lookup t v vi ok).run P w = .ok u w ∧ RepA μ S w e.val u ∧ e.mem = [] := by
  unfold lookupF at h
  split at h
  rotate_left
  · cases h
  rename_i k
  split at h
  · rename_i kt et key ht
    cases hi with
    | pv hp =>
      cases hp with
      | lit _ =>
        split at h
        · rename_i hk
          split at h
          · rename_i live es z he hz
            obtain ⟨i, zv, _, _, hov, hzr⟩ := zr_run hz
            obtain ⟨b, ents, clk, hμ, hl, hh, hsz, hc⟩ := hσ.blk k _ he
            cases hx with
            | mm hm' =>
              rw [hμ] at hm'
              obtain rfl : v = _ := hm'
              split at h
              · rename_i y hf
                cases h
                rcases run_findKey (R := RepA μ S w) hk hsz hc hf w with ⟨h1, _⟩ | ⟨p', u, n, h1, h2, h3⟩
                · cases h1
                · cases h1
                  refine ⟨if ok then .tuple #[u, .bool true] else u, ?_, ?_, rfl⟩
                  · simp [Instr.lookup, run_underlying ht, run_checkKey hk, h2, getObj, Sem.run, hh]
                  · cases ok
                    · exact h3
                    · refine mkTuple_rep (cs := [y, .pv (.lit (.bool true))]) (vs := [u, .bool true]) rfl fun j q v hq hv => ?_
                      match j with
                      | 0 => simp at hq hv; subst hq; subst hv; exact h3
                      | 1 => simp at hq hv; subst hq; subst hv; exact .pv (.lit rfl)
                      | j + 2 => simp at hq
              · rename_i hf
                cases h
                rcases run_findKey (R := RepA μ S w) hk hsz hc hf w with ⟨_, h2⟩ | ⟨p', u, n, h1, _, _⟩
                · refine ⟨if ok then .tuple #[zv, .bool false] else zv, ?_, ?_, rfl⟩
                  · simp [Instr.lookup, run_underlying ht, run_checkKey hk, h2, getObj, Sem.run, hh, hzr]
                  · obtain ⟨q1, _⟩ := ofValue_rep (S := S) (w := w) hov
                    cases ok
                    · exact .pv q1
                    · refine .pv (Rep.tuple (cs := [z, .lit (.bool false)]) (vs := [zv, .bool false]) rfl fun j q v hq hv => ?_)
                      match j with
                      | 0 => simp at hq hv; subst hq; subst hv; exact q1
                      | 1 => simp at hq hv; subst hq; subst hv; exact .lit rfl
                      | j + 2 => simp at hq
                · cases h1
              · cases h
          · cases h
        · cases h
  · cases h
theorem lookupZ_ok (hσ : StoRep μ S w σ) {z : Bool} {t : TypeId} {x ix : AV} {v vi : Value} {ok : Bool} {e : Eff} (hx : RepA μ S w x v) (hi : RepA μ S w ix vi) (h : lookupZ P z t x ix ok σ = some e) :
    ∃ u, (Instr.lookup t v vi ok).run P w = .ok u w ∧ RepA μ S w e.val u ∧ e.mem = [] := by
  cases z with
  | false => exact lookupE_ok hσ hx hi h
  | true =>
    simp only [lookupZ] at h
    cases e1 : lookupF P t x ix ok σ with
    | some e' => rw [e1] at h; cases h; exact lookupF_ok hσ hx hi e1
    | none => rw [e1] at h; exact lookupE_ok hσ hx hi h

/-- A block turns, whatever it is. -/
theorem turn_ok (h : StoRep μ S w σ) {k b : Nat} (ho : owns (μ k) b) (hl : ¬ S b) {x : Blk} (ne : ∀ c, c ≠ b → w'.heap[c]? = w.heap[c]?) (hz : w'.heap.size = w.heap.size) (h1 : w'.os = w.os) (h2 : w'.tape = w.tape) (h3 : w'.output = w.output) (hx : BlkRep μ S w' k x) :
    StoRep μ S w' (ins k x σ) ∧ Ext μ S w μ S w' := by
  have neS : ∀ c, S c → c ≠ b := fun c hc e => hl (e ▸ hc)
  refine ⟨h.upd (KeysOk.refl μ) (fun _ hb => hb) (fun c hc => ne c (neS c hc)) (by omega) k x (fun j => lk_ins k j x σ) hx (fun j _ => rfl) (fun j c hj hoj => ⟨⟨Iff.rfl, ne c fun e => ?_⟩, fun ho' => ?_⟩) (fun c hc => by rw [hz]; exact h.lt k c hc) (fun c hc => by rw [hz]; exact h.slt c hc), ⟨KeysOk.refl μ, fun _ hb => hb, fun c hc => ne c (neS c hc), fun c hc hn => ne c fun e => hn k (e ▸ ho), fun j c hj => .inl ⟨j, hj⟩, fun c hc => .inl hc, by omega, h1, h2, h3⟩⟩
  · subst e; exact hj (h.inj j k c hoj ho)
  · exact hj (h.inj j k c hoj ho')

theorem insertE_ok (hσ : StoRep μ S w σ) {t : TypeId} {m k x : AV} {vm vk vx : Value} {e : Eff} (hm : RepA μ S w m vm) (hk : RepA μ S w k vk) (hx : RepA μ S w x vx) (h : insertE P t m k x σ = some e) :
    EffOkU μ S w σ ((Instr.mapUpdate t vm vk vx).run P w) e := by
  unfold insertE at h
  split at h
  · rename_i kt et r key ht
    split at h
    · rename_i hkk
      split at h
      · rename_i es p ks he hres
        split at h
        · rename_i hf
          split at h
          · cases h
          · rename_i hr
            cases h
            obtain ⟨f1, f2⟩ := freeze_ok hσ ks
            have hlk : lk (applyMem σ (freezeE σ ks)) r = some (.map true es) := by rw [lk_applyMem_freeze, if_neg hr, he]
            have hrep := resolve_rep hσ hx hres
            obtain ⟨b, ents, clk, hμ, hl, hh, hsz, hc⟩ := f1.blk r _ hlk
            have nS : ¬ frozenBy μ S ks b := fun h => by simpa using hl.1 h
            cases hm with
            | mm hm' =>
              rw [hμ] at hm'
              obtain rfl : vm = _ := hm'
              cases hk with
              | pv hp =>
                cases hp with
                | lit _ =>
                  have hlt : b < w.heap.size := (Array.getElem?_eq_some_iff.1 hh).1
                  rcases run_findKey (P := P) (R := Rep (frozenBy μ S ks) w) hkk hsz hc hf w with ⟨_, h2⟩ | ⟨_, _, _, h1, _, _⟩
                  · have hrun : (Instr.mapUpdate t (.map (some b)) vk vx).run P w = .ok () { w with heap := w.heap.setIfInBounds b (.map (ents.push { key := vk, val := vx, born := clk }) (clk + 1)) } := by
                      simp [Instr.mapUpdate, run_underlying ht, getObj, setObj, Sem.run, hh, run_checkKey hkk, h2]
                    have ne : ∀ c, c ≠ b → (w.heap.setIfInBounds b (.map (ents.push { key := vk, val := vx, born := clk }) (clk + 1)))[c]? = w.heap[c]? := fun c hcb => by
                      rw [Array.getElem?_setIfInBounds_ne (Ne.symm hcb)]
                    obtain ⟨s1, s2⟩ := turn_ok f1 (k := r) (b := b) (w' := { w with heap := w.heap.setIfInBounds b (.map (ents.push { key := vk, val := vx, born := clk }) (clk + 1)) }) (by rw [hμ]; rfl) nS ne (by simp) rfl rfl rfl
                      (x := .map true (es ++ [(vk, p)])) ⟨b, ents.push { key := vk, val := vx, born := clk }, clk + 1, hμ, hl, by simp [hlt], by simp [hsz], fun i e m h3 h4 => by
                        have mono : ∀ {q : PV} {u : Value}, Rep (frozenBy μ S ks) w q u → Rep (frozenBy μ S ks) { w with heap := w.heap.setIfInBounds b (.map (ents.push { key := vk, val := vx, born := clk }) (clk + 1)) } q u :=
                          fun h => h.mono (fun _ h => h) (fun c hc => ne c (fun e => nS (e ▸ hc)))
                        rw [List.getElem?_append] at h3
                        rw [Array.getElem?_push] at h4
                        split at h3
                        · rw [if_neg (by omega)] at h4
                          obtain ⟨g1, g2⟩ := hc i e m h3 h4
                          exact ⟨g1, mono g2⟩
                        · have hi : i = es.length := by
                            have := (List.getElem?_eq_some_iff.1 h3).1
                            simp at this; omega
                          subst hi
                          simp at h3
                          subst h3
                          rw [if_pos (by omega)] at h4
                          cases h4
                          exact ⟨rfl, mono hrep⟩⟩
                    exact ⟨μ, _, _, hrun, undef_rep, by rw [applyMem_append]; exact s1, f2.trans s2⟩
                  · cases h1
        · cases h
      · cases h
    · cases h
  · cases h

theorem insertF_ok (hσ : StoRep μ S w σ) {t : TypeId} {m k x : AV} {vm vk vx : Value} {e : Eff} (hm : RepA μ S w m vm) (hk : RepA μ S w k vk) (hx : RepA μ S w x vx) (h : insertF P t m k x σ = some e) :
    EffOkU μ S w σ ((Instr.mapUpdate t vm vk vx).run P w) e := by
  -- one step for both
  have step : ∀ {kt et : TypeId} {r : Nat} {key : Value} (es : List (Value × AV)) (b : Nat) (ents : Array MapEntry) (clk : Nat), P.underlying t = some (.map kt et) → kindKey P kt key = true → RepA μ S w (.mm r) vm → RepA μ S w (.pv (.lit key)) vk →
      μ r = some (.map b) → (S b ↔ true = false) → w.heap[b]? = some (.map ents clk) → ents.size = es.length → (∀ (i : Nat) (e : Value × AV) (m : MapEntry), es[i]? = some e → ents[i]? = some m → m.key = e.1 ∧ RepA μ S w e.2 m.val) → findM key es = some none →
      EffOkU μ S w σ ((Instr.mapUpdate t vm vk vx).run P w) ⟨.pv (.tuple []), [(r, .fmap true (es ++ [(key, x)]))], [r]⟩ := by
    intro kt et r key es b ents clk ht hkk hm hk hμ hl hh hsz hc hf
    have nS : ¬ S b := fun h => by simpa using hl.1 h
    cases hm with
    | mm hm' =>
      rw [hμ] at hm'
      obtain rfl : vm = _ := hm'
      cases hk with
      | pv hp =>
        cases hp with
        | lit _ =>
          have hlt : b < w.heap.size := (Array.getElem?_eq_some_iff.1 hh).1
          rcases run_findKey (P := P) (R := RepA μ S w) hkk hsz hc hf w with ⟨_, h2⟩ | ⟨_, _, _, h1, _, _⟩
          · have hrun : (Instr.mapUpdate t (.map (some b)) vk vx).run P w = .ok () { w with heap := w.heap.setIfInBounds b (.map (ents.push { key := vk, val := vx, born := clk }) (clk + 1)) } := by
              simp [Instr.mapUpdate, run_underlying ht, getObj, setObj, Sem.run, hh, run_checkKey hkk, h2]
            have ne : ∀ c, c ≠ b → (w.heap.setIfInBounds b (.map (ents.push { key := vk, val := vx, born := clk }) (clk + 1)))[c]? = w.heap[c]? := fun c hcb => by
              rw [Array.getElem?_setIfInBounds_ne (Ne.symm hcb)]
            have mono : ∀ {q : AV} {u : Value}, RepA μ S w q u → RepA μ S { w with heap := w.heap.setIfInBounds b (.map (ents.push { key := vk, val := vx, born := clk }) (clk + 1)) } q u :=
              fun h => h.mono (KeysOk.refl μ) (fun _ h => h) (fun c hc => ne c (fun e => nS (e ▸ hc)))
            obtain ⟨s1, s2⟩ := turn_ok hσ (k := r) (b := b) (w' := { w with heap := w.heap.setIfInBounds b (.map (ents.push { key := vk, val := vx, born := clk }) (clk + 1)) }) (by rw [hμ]; rfl) nS ne (by simp) rfl rfl rfl
              (x := .fmap true (es ++ [(vk, x)])) ⟨b, ents.push { key := vk, val := vx, born := clk }, clk + 1, hμ, hl, by simp [hlt], by simp [hsz], fun i e m h3 h4 => by
                rw [List.getElem?_append] at h3
                rw [Array.getElem?_push] at h4
                split at h3
                · rw [if_neg (by omega)] at h4
                  obtain ⟨g1, g2⟩ := hc i e m h3 h4
                  exact ⟨g1, mono g2⟩
                · have hi : i = es.length := by
                    have := (List.getElem?_eq_some_iff.1 h3).1
                    simp at this; omega
                  subst hi
                  simp at h3
                  subst h3
                  rw [if_pos (by omega)] at h4
                  cases h4
                  exact ⟨rfl, mono hx⟩⟩
            exact ⟨μ, _, _, hrun, undef_rep, s1, s2⟩
          · cases h1
  unfold insertF at h
  split at h
  · rename_i kt et r key ht
    split at h
    · rename_i hkk
      split at h
      · rename_i he
        cases h
        obtain ⟨b, ents, clk, hμ, hl, hh, hsz, hc⟩ := hσ.blk r _ he
        exact step [] b ents clk ht hkk hm hk hμ hl hh hsz (fun i e m h1 => by simp at h1) rfl
      · rename_i es he
        split at h
        · rename_i hf
          cases h
          obtain ⟨b, ents, clk, hμ, hl, hh, hsz, hc⟩ := hσ.blk r _ he
          exact step es b ents clk ht hkk hm hk hμ hl hh hsz hc hf
        · cases h
      · cases h
    · cases h
  · cases h
theorem insertZ_ok (hσ : StoRep μ S w σ) {z : Bool} {t : TypeId} {m k x : AV} {vm vk vx : Value} {e : Eff} (hm : RepA μ S w m vm) (hk : RepA μ S w k vk) (hx : RepA μ S w x vx) (h : insertZ P z t m k x σ = some e) :
    EffOkU μ S w σ ((Instr.mapUpdate t vm vk vx).run P w) e := by
  cases z with
  | false => exact insertE_ok hσ hm hk hx h
  | true => exact insertF_ok hσ hm hk hx h

theorem nextE_ok (hσ : StoRep μ S w σ) {b : Bool} {x : AV} {v : Value} {ty : TypeId} {e : Eff} (hx : RepA μ S w x v) (h : nextE b x σ = some e) :
    EffOk μ S w σ ((Instr.next v b ty).run P w) e := by
  unfold nextE at h
  split at h
  · rename_i k
    split at h
    · rename_i s pos he
      obtain ⟨b, hμ, hl, hh⟩ := hσ.blk k _ he
      have nS : ¬ S b := fun h => by simpa using hl.1 h
      cases hx with
      | bp hm =>
        rw [hμ] at hm
        obtain rfl : v = _ := hm
        have hlt : b < w.heap.size := (Array.getElem?_eq_some_iff.1 hh).1
        split at h
        · rename_i hc
          cases h
          have ne : ∀ c, c ≠ b → (w.heap.setIfInBounds b (.stringIter s (pos + (Utf8.decode s pos).2)))[c]? = w.heap[c]? := fun c hcb => by
            rw [Array.getElem?_setIfInBounds_ne (Ne.symm hcb)]
          obtain ⟨s1, s2⟩ := turn_ok hσ (k := k) (b := b) (w' := { w with heap := w.heap.setIfInBounds b (.stringIter s (pos + (Utf8.decode s pos).2)) }) (by rw [hμ]; rfl) nS ne (by simp) rfl rfl rfl
            (x := .it true s (pos + (Utf8.decode s pos).2)) ⟨b, hμ, hl, by simp [hlt]⟩
          refine ⟨.tuple #[.bool true, goInt pos, .int .i32 (Utf8.decode s pos).1], μ, S, _, ?_, ?_, s1, s2⟩
          · simp [Instr.next, getObj, setObj, Sem.run, hh, hc]
          · refine .pv (Rep.tuple (cs := [.lit (.bool true), .lit (.int .i64 pos), .lit (.int .i32 (Utf8.decode s pos).1)]) (vs := [.bool true, goInt pos, .int .i32 (Utf8.decode s pos).1]) rfl fun j q v hq hv => ?_)
            match j with
            | 0 => simp at hq hv; subst hq; subst hv; exact .lit rfl
            | 1 => simp at hq hv; subst hq; subst hv; exact .lit rfl
            | 2 => simp at hq hv; subst hq; subst hv; exact .lit rfl
            | j + 3 => simp at hq
        · rename_i hc
          cases h
          refine ⟨.tuple #[.bool false], μ, S, w, ?_, ?_, by simpa [applyMem] using hσ, Ext.refl _ _ _⟩
          · simp [Instr.next, getObj, Sem.run, hh, hc]
          · refine .pv (Rep.tuple (cs := [.lit (.bool false)]) (vs := [.bool false]) rfl fun j q v hq hv => ?_)
            match j with
            | 0 => simp at hq hv; subst hq; subst hv; exact .lit rfl
            | j + 1 => simp at hq
    · cases h
  · cases h

/-! ### Append -/
theorem RowRel.append {s : Nat} {es fs : List PV} {a b c : List Value} (ha : RowRel S w s es a) (hl : a.length = es.length * s) (hb : RowRel S w s fs b) (hbl : b.length = fs.length * s) : RowRel S w s (es ++ fs) (a ++ b ++ c) := by
  refine ⟨by simp [Nat.add_mul]; omega, fun i p hp => ?_⟩
  rw [List.getElem?_append] at hp
  split at hp
  · rename_i hi
    obtain ⟨h1, h2⟩ := ha.2 i p hp
    refine ⟨h1, fun j q v hq hv => h2 j q v hq ?_⟩
    have hj : j < s := by rw [← h1]; exact (List.getElem?_eq_some_iff.1 hq).1
    have := row_in (i := i) (j := j) (s := s) (cap := es.length) hi hj
    rw [List.append_assoc, List.getElem?_append_left (by omega)] at hv
    exact hv
  · rename_i hi
    obtain ⟨h1, h2⟩ := hb.2 _ p hp
    refine ⟨h1, fun j q v hq hv => h2 j q v hq ?_⟩
    have hj : j < s := by rw [← h1]; exact (List.getElem?_eq_some_iff.1 hq).1
    have hi' : i - es.length < fs.length := (List.getElem?_eq_some_iff.1 hp).1
    have h3 := row_in (i := i - es.length) (j := j) (s := s) (cap := fs.length) hi' hj
    have h4 : i * s = es.length * s + (i - es.length) * s := by rw [← Nat.add_mul]; congr 1; omega
    rw [List.append_assoc, List.getElem?_append_right (by omega), List.getElem?_append_left (by omega)] at hv
    rw [← hv]
    congr 1
    omega

/-- The cells of a slice that stands. -/
theorem sl_cells {full : Bool} {es : List PV} {v : Value} {n : Nat} (hr : Rep S w (.sl full es) v) (hn : ∀ (i : Nat) (p : PV), es[i]? = some p → p.cells.length = n) (h0 : 0 < n) :
    ∃ a cap cs, v = .slice a es.length cap ∧ es.length ≤ cap ∧ (full = true → cap = es.length) ∧ cs.length = es.length * n ∧ RowRel S w n es cs ∧ ∀ w' : World, w'.heap = w.heap → (Builtin.firstCells n es.length v).run P w' = .ok cs.toArray w' := by
  cases hr with
  | @sl _ _ a cap s f hn0 hc hf hs ha hr =>
    refine ⟨a, cap, (List.range (es.length * n)).map fun m => f (m / n) (m % n), rfl, hc, hf, by simp, ⟨by simp, fun i p hp => ⟨hn i p hp, fun j q v hq hv => ?_⟩⟩, fun w' hw => ?_⟩
    · have hi : i < es.length := (List.getElem?_eq_some_iff.1 hp).1
      have hj : j < n := by rw [← hn i p hp]; exact (List.getElem?_eq_some_iff.1 hq).1
      rw [List.getElem?_map, List.getElem?_range (row_in hi hj)] at hv
      simp only [Option.map_some, Option.some.injEq] at hv
      have e1 : (i * n + j) / n = i := by rw [Nat.mul_comm, Nat.mul_add_div h0, Nat.div_eq_of_lt hj, Nat.add_zero]
      have e2 : (i * n + j) % n = j := by rw [Nat.add_comm, Nat.add_mul_mod_self_right, Nat.mod_eq_of_lt hj]
      rw [e1, e2] at hv
      rw [← hv]
      exact hr i p j q hp hq
    · cases hes : es with
      | nil =>
        cases a with
        | none => simp [Builtin.firstCells]
        | some ad => simp [Builtin.firstCells, loadCells, loadCellsFrom]
      | cons p0 r =>
        have hs0 : n = s := by rw [← hn 0 p0 (by rw [hes]; rfl), hs 0 p0 (by rw [hes]; rfl)]
        have hq0 : ∃ q, p0.cells[0]? = some q := by
          have := hn 0 p0 (by rw [hes]; rfl)
          exact ⟨_, List.getElem?_eq_getElem (by omega)⟩
        obtain ⟨q0, hq0⟩ := hq0
        obtain ⟨b, o, rfl, _, _⟩ := ha 0 p0 0 q0 (by rw [hes]; rfl) hq0
        rw [← hes]
        have := run_firstCells_some (P := P) w' n es.length ⟨b, o, none⟩ es.length cap ((List.range (es.length * n)).map fun m => f (m / n) (m % n)) (by simp) (fun j u hu => by
          simp only [List.getElem?_map, Option.map_eq_some_iff] at hu
          obtain ⟨m, hm, rfl⟩ := hu
          have hj : j < es.length * n := by simpa using (List.getElem?_eq_some_iff.1 hm).1
          obtain rfl : m = j := by rw [List.getElem?_range hj] at hm; exact (Option.some.inj hm).symm
          have hi : m / n < es.length := Nat.div_lt_of_lt_mul (by rwa [Nat.mul_comm])
          have hmod : m % n < n := Nat.mod_lt _ h0
          have hp := List.getElem?_eq_getElem hi
          have hcl := hn _ _ hp
          have hq := List.getElem?_eq_getElem (l := es[m / n].cells) (i := m % n) (by omega)
          obtain ⟨b', o', he, _, hcell⟩ := ha _ _ _ _ hp hq
          cases he
          rw [add_at]
          have e : m / n * s + m % n = m := by rw [← hs0, Nat.mul_comm]; exact Nat.div_add_mod m n
          rw [e] at hcell
          rw [World.cell?_of_block (w := w) (by rw [hw])]
          exact hcell)
        exact this

theorem elems_ok (hσ : StoRep μ S w σ) {x : AV} {v : Value} {es : List PV} {ks : List Nat} {n : Nat} (hx : RepA μ S w x v) (h : elems σ x = some (es, ks)) (hn : ∀ (i : Nat) (p : PV), es[i]? = some p → p.cells.length = n) (h0 : 0 < n) :
    ∃ a cap cs, v = .slice a es.length cap ∧ cs.length = es.length * n ∧ RowRel S w n es cs ∧ ∀ w' : World, w'.heap = w.heap → (Builtin.firstCells n es.length v).run P w' = .ok cs.toArray w' := by
  unfold elems at h
  split at h
  · cases h
    cases hx with
    | pv hp =>
      obtain ⟨a, cap, cs, h1, _, _, h4, h5, h6⟩ := sl_cells (P := P) hp hn h0
      exact ⟨a, cap, cs, h1, h4, h5, h6⟩
  · rename_i k off len own
    split at h
    · rename_i live e s es' he
      · cases hx with
        | ms hm =>
          obtain ⟨hle, h⟩ := own_piece (f := fun l => (l, [k])) hσ he hm h
          simp only [Prod.mk.injEq] at h
          obtain ⟨rfl, rfl⟩ := h
          have ll : ((es'.drop off).take len).length = len := by rw [List.length_take, List.length_drop]; omega
          rw [ll]
          rcases hσ.blk k _ he with ⟨g1, g2⟩ | ⟨b, cap, cur, hμ, hl, hh, h1, h2, h3, hc⟩
          · rw [g2] at hm
            obtain ⟨rfl, rfl, a, rfl⟩ := hm
            refine ⟨a, 0, [], rfl, by simp, ⟨by simp, fun i p hp => by simp at hp⟩, fun w' _ => ?_⟩
            cases a with
            | none => simp [Builtin.firstCells]
            | some ad => simp [Builtin.firstCells, loadCells, loadCellsFrom]
          · rw [hμ] at hm
            obtain ⟨a, c, rfl, hlc, ha, _⟩ := hm
            by_cases hlen : len = 0
            · subst hlen
              refine ⟨a, c, [], rfl, by simp, ⟨by simp, fun i p hp => by simp at hp⟩, fun w' _ => ?_⟩
              cases a with
              | none => simp [Builtin.firstCells]
              | some ad => simp [Builtin.firstCells, loadCells, loadCellsFrom]
            · have get : ∀ (i : Nat) (p : PV), ((es'.drop off).take len)[i]? = some p → es'[off + i]? = some p := by
                intro i p hp
                rw [List.getElem?_take] at hp
                split at hp
                · rwa [List.getElem?_drop] at hp
                · cases hp
              have hp0 : ((es'.drop off).take len)[0]? = some (((es'.drop off).take len)[0]'(by omega)) := List.getElem?_eq_getElem (by omega)
              have hsn : s = n := by rw [← hn 0 _ hp0, (hc _ _ (get 0 _ hp0)).1]
              subst hsn
              have ha' := ha.resolve_left (by omega)
              subst ha'
              have hin : off * s + len * s ≤ cur.size := by
                rw [h3, ← Nat.add_mul]; exact Nat.mul_le_mul_right _ (by omega)
              obtain ⟨m1, m2⟩ := take_cells cur.toList (off * s) (len * s) (by simpa using hin)
              refine ⟨_, c, (cur.toList.drop (off * s)).take (len * s), rfl, m1, ⟨by rw [m1, ll]; exact Nat.le_refl _, fun i p hp => ?_⟩, fun w' hw => ?_⟩
              · obtain ⟨e1, h4⟩ := hc _ p (get i p hp)
                refine ⟨e1, fun j q u hq hu => ?_⟩
                have hj : j < s := by rw [← e1]; exact (List.getElem?_eq_some_iff.1 hq).1
                have hi : i < len := by have := (List.getElem?_eq_some_iff.1 hp).1; omega
                rw [m2 _ (row_in hi hj)] at hu
                have e : off * s + (i * s + j) = (off + i) * s + j := by rw [Nat.add_mul]; omega
                rw [e] at hu
                exact h4 j q u hq (by simpa using hu)
              · refine run_firstCells_some (P := P) w' s len ⟨b, off * s, none⟩ len c _ m1 (fun j u hu => ?_)
                have hj : j < len * s := by rw [← m1]; exact (List.getElem?_eq_some_iff.1 hu).1
                rw [m2 j hj] at hu
                rw [add_at, World.cell?_of_block (w := w) (by rw [hw])]
                simpa [World.cell?, hh] using hu
    · cases h
  · cases h
end Go.Mir
