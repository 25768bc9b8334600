/- Stores, new blocks, parts, addresses (lemmas; conditions: what they say). -/
import Derived.Test.YthcmkipbdgndoaaGreatDoorNx4
set_option linter.all false
set_option linter.unusedVariables false
set_option linter.unusedSimpArgs false
set_option linter.unnecessarySimpa false
namespace Go.Mir
open Go Go.RowKit
variable {P : Program} {μ μ' : Nat → Option KS} {S S' : Nat → Prop} {w w' : World} {σ σ' : Store}

noncomputable def EffOk (μ : Nat → Option KS) (S : Nat → Prop) (w : World) (σ : Store) (r : Result Value) (e : Eff) : Prop :=
  ∃ v μ' S' w', r = .ok v w' ∧ RepA μ' S' w' e.val v ∧ StoRep μ' S' w' (applyMem σ e.mem) ∧ Ext μ S w μ' S' w'
noncomputable def EffOkU (μ : Nat → Option KS) (S : Nat → Prop) (w : World) (σ : Store) (r : Result Unit) (e : Eff) : Prop :=
  ∃ μ' S' w', r = .ok () w' ∧ RepA μ' S' w' e.val undef ∧ StoRep μ' S' w' (applyMem σ e.mem) ∧ Ext μ S w μ' S' w'

theorem EffOk.same (hσ : StoRep μ S w σ) {r : Result Value} {e : Eff} {v : Value} (hr : r = .ok v w) (hv : RepA μ S w e.val v) (hm : e.mem = []) : EffOk μ S w σ r e :=
  ⟨v, μ, S, w, hr, hv, by rw [hm]; exact hσ, Ext.refl μ S w⟩
theorem EffOk.valE (hσ : StoRep μ S w σ) {r : Result Value} {x : AV} {e : Eff} {v : Value} (h : Mir.valE x = some e) (hr : r = .ok v w) (hv : RepA μ S w x v) : EffOk μ S w σ r e := by
  cases h; exact EffOk.same hσ hr hv rfl
theorem undef_rep : RepA μ S w (.pv (.tuple [])) undef := .pv (Rep.tuple (cs := []) (vs := []) rfl fun j q v h => by simp at h)

noncomputable def PW {α β : Type} (R : α → β → Prop) (xs : List α) (vs : List β) : Prop := xs.length = vs.length ∧ ∀ (j : Nat) (x : α) (v : β), xs[j]? = some x → vs[j]? = some v → R x v
section
variable {α β : Type} {R : α → β → Prop}
theorem PW.nil : PW R [] [] := ⟨rfl, fun j x v h => by simp at h⟩
theorem PW.append {xs ys : List α} {vs us : List β} (h : PW R xs vs) (h' : PW R ys us) : PW R (xs ++ ys) (vs ++ us) := by
  refine ⟨by simp [h.1, h'.1], fun j x v hx hv => ?_⟩
  rw [List.getElem?_append] at hx hv
  rw [← h.1] at hv
  split at hx
  · rw [if_pos (by assumption)] at hv; exact h.2 j x v hx hv
  · rw [if_neg (by assumption)] at hv; exact h'.2 _ x v hx hv
theorem PW.take {xs : List α} {vs : List β} (h : PW R xs vs) (n : Nat) : PW R (xs.take n) (vs.take n) := by
  refine ⟨by simp [h.1], fun j x v hx hv => ?_⟩
  rw [List.getElem?_take] at hx hv
  split at hx
  · rw [if_pos (by assumption)] at hv; exact h.2 j x v hx hv
  · cases hx
theorem PW.drop {xs : List α} {vs : List β} (h : PW R xs vs) (n : Nat) : PW R (xs.drop n) (vs.drop n) := by
  refine ⟨by simp [h.1], fun j x v hx hv => ?_⟩
  rw [List.getElem?_drop] at hx hv
  exact h.2 _ x v hx hv
theorem PW.splice {xs ys : List α} {vs us : List β} (h : PW R xs vs) (h' : PW R ys us) (off : Nat) : PW R (xs.take off ++ ys ++ xs.drop (off + ys.length)) (vs.take off ++ us ++ vs.drop (off + us.length)) := by
  rw [h'.1]
  exact ((h.take off).append h').append (h.drop _)
theorem PW.mono {R' : α → β → Prop} (hR : ∀ x v, R x v → R' x v) {xs : List α} {vs : List β} (h : PW R xs vs) : PW R' xs vs := ⟨h.1, fun j x v hx hv => hR _ _ (h.2 j x v hx hv)⟩
end

theorem get_splice {α : Type} (cur us : List α) (a m : Nat) (h : a + us.length ≤ cur.length) :
    (cur.take a ++ us ++ cur.drop (a + us.length))[m]? = if m < a then cur[m]? else if m < a + us.length then us[m - a]? else cur[m]? := by
  have e1 : (cur.take a).length = a := by rw [List.length_take]; omega
  by_cases h1 : m < a
  · rw [if_pos h1, List.append_assoc, List.getElem?_append_left (by omega), List.getElem?_take, if_pos h1]
  · rw [if_neg h1, List.append_assoc, List.getElem?_append_right (by omega), e1]
    by_cases h2 : m < a + us.length
    · rw [if_pos h2, List.getElem?_append_left (by omega)]
    · rw [if_neg h2, List.getElem?_append_right (by omega), List.getElem?_drop]
      congr 1
      omega

theorem cells_PW {x : AV} {v : Value} (h : RepA μ S w x v) (ha : x.cells.all AV.isCell = true) : PW (RepA μ S w) x.cells v.cells.toList ∧ ∀ u ∈ v.cells.toList, u.oneCell' = true := by
  obtain ⟨h1, h2⟩ := repA_cells h ha
  refine ⟨⟨by simpa using h1, fun j q u hq hu => h2 j q u hq (by simpa using hu)⟩, fun u hu => ?_⟩
  obtain ⟨j, hj, rfl⟩ := List.getElem_of_mem hu
  have hj' : j < x.cells.length := by simp at hj; omega
  have := h2 j x.cells[j] v.cells.toList[j] (List.getElem?_eq_getElem hj') (by simp at hj ⊢)
  exact (repA_cell this (List.all_eq_true.1 ha _ (List.getElem_mem _))).1
theorem cells_PWp {p : PV} {v : Value} (h : Rep S w p v) (ha : p.cells.all PV.isCell = true) : PW (Rep S w) p.cells v.cells.toList ∧ ∀ u ∈ v.cells.toList, u.oneCell' = true := by
  obtain ⟨h1, h2⟩ := rep_cells h ha
  refine ⟨⟨by simpa using h1, fun j q u hq hu => h2 j q u hq (by simpa using hu)⟩, fun u hu => ?_⟩
  obtain ⟨j, hj, rfl⟩ := List.getElem_of_mem hu
  have hj' : j < p.cells.length := by simp at hj; omega
  have := h2 j p.cells[j] v.cells.toList[j] (List.getElem?_eq_getElem hj') (by simp at hj ⊢)
  exact (rep_cell this (List.all_eq_true.1 ha _ (List.getElem_mem _))).1

theorem setRow_heap' (g : Nat) (cur cs : Array Value) (t : TypeId) (hg : w.heap[g]? = some (.cells cur t (0, 0))) : (w.setRow g cs).heap[g]? = some (.cells cs t (0, 0)) := setRow_heap w g cur cs t _ hg

/-- Cells stored into a row of cells. -/
theorem run_storeVar {t : TypeId} {n b off : Nat} {v : Value} {cur : Array Value} {e : TypeId} (hn : sz P t = some n) (hv : v.cells.size = n) (hh : w.heap[b]? = some (.cells cur e (0, 0))) (hle : off + n ≤ cur.size) (h1 : ∀ u ∈ v.cells.toList, u.oneCell' = true) :
    (Instr.storeAt t (.pointer (some ⟨b, off, none⟩)) v).run P w = .ok () (w.setRow b (cur.toList.take off ++ v.cells.toList ++ cur.toList.drop (off + v.cells.toList.length)).toArray) := by
  have h := run_storeCells_at P b off e v.cells.toList 0 cur w hh (by simp; omega) h1
  simp only [Nat.add_zero] at h
  simp [Instr.storeAt, Instr.sureAddr, storeVar, sz_run hn, hv, h]

theorem resolve_rep (hσ : StoRep μ S w σ) {n : Nat} {x : AV} {v : Value} {p : PV} {ks : List Nat} (hx : RepA μ S w x v) (h : resolve σ n x = some (p, ks)) : Rep (frozenBy μ S ks) w p v :=
  resolve_sound hσ (fun b hb => .inl hb) n x v p ks hx h (fun k hk b hb => .inr ⟨k, hk, hb⟩)

theorem ofCellsB_cells {b : Bool} {cs : List PV} {z : PV} (h : PV.ofCellsB b cs = some z) : z.cells = cs := by
  unfold PV.ofCellsB at h
  split at h
  · cases h; rfl
  · rename_i c
    split at h
    · rename_i hc; cases h; cases z <;> first | rfl | (simp [PV.isCell] at hc)
    · cases h
  · cases h

theorem storeE_ok (hσ : StoRep μ S w σ) {t : TypeId} {a x : AV} {va vx : Value} {e : Eff} (ha : RepA μ S w a va) (hx : RepA μ S w x vx) (h : storeE P t σ a x = some e) :
    EffOkU μ S w σ ((Instr.storeAt t va vx).run P w) e := by
  unfold storeE at h
  split at h
  · rename_i n k off hn
    split at h
    · rename_i cs he
      split at h
      · rename_i hc
        obtain ⟨h1, h2, h3⟩ := hc
        cases h
        obtain ⟨b, cur, t', hμ, hl, hh, hsz, hcells⟩ := hσ.blk k _ he
        cases ha with
        | bp hm =>
          rw [hμ] at hm
          obtain rfl : va = _ := hm
          obtain ⟨hp, h1c⟩ := cells_PW hx h3
          have hlen : vx.cells.size = n := by rw [← h1]; simpa using hp.1.symm
          have hrun := run_storeVar (P := P) (w := w) hn hlen hh (off := off) (by omega) h1c
          have nS : ¬ S b := fun h => by simpa using hl.1 h
          have pw : PW (RepA μ S w) cs cur.toList := ⟨by simpa using hsz.symm, fun j x v h1 h2 => hcells j x v h1 (by simpa using h2)⟩
          have pw' := pw.splice hp off
          obtain ⟨s1, s2⟩ := write_ok hσ (k := k) (b := b) (by rw [hμ]; rfl) nS (x := .box true (cs.take off ++ x.cells ++ cs.drop (off + n))) (cur.toList.take off ++ vx.cells.toList ++ cur.toList.drop (off + vx.cells.toList.length)).toArray
            ⟨b, _, t', hμ, hl, setRow_heap' b cur _ t' hh, by
              have := pw'.1
              rw [← h1]
              simpa using this.symm, fun j y u hy hu => by
              refine (pw'.2 j y u (by rw [h1]; exact hy) (by simpa using hu)).mono (KeysOk.refl μ) (fun _ h => h) (fun c hc => setRow_other w b c _ (fun e => nS (e ▸ hc)))⟩
          exact ⟨μ, S, _, hrun, undef_rep, s1, s2⟩
      · cases h
    · cases h
  · rename_i n k i off hn
    split at h
    · rename_i e0 s es he
      split at h
      · rename_i y p ks hy hres
        split at h
        · rename_i hc
          obtain ⟨h1, h2, h3, h4⟩ := hc
          obtain ⟨f1, f2⟩ := freeze_ok hσ ks
          have hlk : lk (applyMem σ (freezeE σ ks)) k = some (.row true e0 s es) := by rw [lk_applyMem_freeze, if_neg h4, he]
          have hrep := resolve_rep hσ hx hres
          cases ha with
          | rp hm =>
            rcases f1.blk k _ hlk with ⟨g1, g2⟩ | ⟨b, cap, cur, hμ, hl, hh, g1, g2, g3, hcells⟩
            · rw [g2] at hm; exact hm.elim
            · rw [hμ] at hm
              obtain rfl : va = _ := hm
              obtain ⟨hp, h1c⟩ := cells_PWp hrep h3
              have hlen : vx.cells.size = n := by rw [← h1]; simpa using hp.1.symm
              obtain ⟨e1, hyc⟩ := hcells i y hy
              have hi : i < es.length := (List.getElem?_eq_some_iff.1 hy).1
              have hin : i * s + s ≤ cap * s := by
                have := Nat.mul_le_mul_right s (show i + 1 ≤ cap by omega)
                rwa [Nat.add_mul i 1 s, Nat.one_mul] at this
              have hrun := run_storeVar (P := P) (w := w) hn hlen hh (off := i * s + off) (by omega) h1c
              have nS : ¬ frozenBy μ S ks b := fun h => by simpa using hl.1 h
              have hul : vx.cells.toList.length = n := by simpa using hlen
              -- the new row
              have main : ∀ z : PV, z.cells = y.cells.take off ++ p.cells ++ y.cells.drop (off + n) → StoRep μ (frozenBy μ S ks) (w.setRow b (cur.toList.take (i * s + off) ++ vx.cells.toList ++ cur.toList.drop (i * s + off + vx.cells.toList.length)).toArray) (ins k (.row true e0 s (es.set i z)) (applyMem σ (freezeE σ ks))) ∧
                  Ext μ (frozenBy μ S ks) w μ (frozenBy μ S ks) (w.setRow b (cur.toList.take (i * s + off) ++ vx.cells.toList ++ cur.toList.drop (i * s + off + vx.cells.toList.length)).toArray) := by
                intro z hz
                have sp := fun m => get_splice cur.toList vx.cells.toList (i * s + off) m (by simp only [Array.length_toList] at hul ⊢; omega)
                refine write_ok f1 (k := k) (b := b) (by rw [hμ]; rfl) nS _ (.inr ⟨b, cap, _, by rw [List.length_set]; exact hμ, hl, setRow_heap' b cur _ e0 hh, by simpa using g1, g2, ?_, fun i' q hq => ?_⟩)
                · simp only [List.size_toArray, List.length_append, List.length_take, List.length_drop, Array.length_toList] at hul ⊢; omega
                · rw [List.getElem?_set] at hq
                  split at hq
                  · rename_i hii
                    subst hii
                    · obtain rfl := Option.some.inj hq
                      have hzl : z.cells.length = s := by
                        rw [hz]
                        simp only [List.length_append, List.length_take, List.length_drop]
                        omega
                      refine ⟨hzl, fun j r u hr hu => ?_⟩
                      have hjs : j < s := by rw [← hzl]; exact (List.getElem?_eq_some_iff.1 hr).1
                      rw [hz] at hr
                      have sp2 := get_splice y.cells p.cells off j (by omega)
                      rw [h1] at sp2
                      rw [sp2] at hr
                      have hu' : (cur.toList.take (i * s + off) ++ vx.cells.toList ++ cur.toList.drop (i * s + off + vx.cells.toList.length))[i * s + j]? = some u := by simpa using hu
                      rw [sp (i * s + j), hul] at hu'
                      have res : Rep (frozenBy μ S ks) w r u := by
                        by_cases c1 : j < off
                        · rw [if_pos c1] at hr
                          rw [if_pos (by omega)] at hu'
                          exact hyc j r u hr (by simpa using hu')
                        · rw [if_neg c1] at hr
                          rw [if_neg (by omega)] at hu'
                          by_cases c2 : j < off + n
                          · rw [if_pos c2] at hr
                            rw [if_pos (by omega), show i * s + j - (i * s + off) = j - off by omega] at hu'
                            exact hp.2 _ r u hr hu'
                          · rw [if_neg c2] at hr
                            rw [if_neg (by omega)] at hu'
                            exact hyc j r u hr (by simpa using hu')
                      exact res.mono (fun _ h => h) (fun c hc => setRow_other w b c _ (fun e => nS (e ▸ hc)))
                  · rename_i hii
                    obtain ⟨e2, hq2⟩ := hcells i' q hq
                    refine ⟨e2, fun j r u hr hu => ?_⟩
                    have hjs : j < s := by rw [← e2]; exact (List.getElem?_eq_some_iff.1 hr).1
                    have hu' : (cur.toList.take (i * s + off) ++ vx.cells.toList ++ cur.toList.drop (i * s + off + vx.cells.toList.length))[i' * s + j]? = some u := by simpa using hu
                    rw [sp (i' * s + j), hul] at hu'
                    have far : i' * s + j < i * s ∨ i * s + s ≤ i' * s + j := by
                      rcases Nat.lt_or_gt_of_ne hii with c | c
                      · right
                        have := Nat.mul_le_mul_right s (show i + 1 ≤ i' by omega)
                        rw [Nat.add_mul i 1 s, Nat.one_mul] at this
                        omega
                      · left
                        have := Nat.mul_le_mul_right s (show i' + 1 ≤ i by omega)
                        rw [Nat.add_mul i' 1 s, Nat.one_mul] at this
                        omega
                    have : cur[i' * s + j]? = some u := by
                      by_cases c1 : i' * s + j < i * s + off
                      · rw [if_pos c1] at hu'; simpa using hu'
                      · rw [if_neg c1, if_neg (by omega)] at hu'; simpa using hu'
                    exact (hq2 j r u hr this).mono (fun _ h => h) (fun c hc => setRow_other w b c _ (fun e => nS (e ▸ hc)))
              split at h
              · rename_i z hz
                cases h
                obtain ⟨s1, s2⟩ := main z (ofCellsB_cells hz)
                exact ⟨μ, _, _, hrun, undef_rep, by rw [applyMem_append]; exact s1, f2.trans s2⟩
              · cases h
        · cases h
      · cases h
    · cases h
  · cases h

theorem storeA_ok (hσ : StoRep μ S w σ) {t : TypeId} {a x : AV} {va vx : Value} {e : Eff} (ha : RepA μ S w a va) (hx : RepA μ S w x vx) (h : storeA P t σ a x = some e) :
    EffOkU μ S w σ ((Instr.storeAt t va vx).run P w) e := by
  unfold storeA at h
  split at h
  · rename_i n k p hn
    split at h
    · rename_i e0 es he
      split at h
      · rename_i hc
        obtain ⟨h1, h2, h3, h4⟩ := hc
        cases h
        cases hx with
        | pv hrep =>
        cases ha with
        | rp hm =>
          rcases hσ.blk k _ he with ⟨g1, g2⟩ | ⟨b, cap, cur, hμ, hl, hh, g1, g2, g3, hcells⟩
          · rw [g2] at hm; exact hm.elim
          · rw [hμ] at hm
            obtain rfl : va = _ := hm
            obtain ⟨hp, h1c⟩ := cells_PWp hrep h4
            have hlen : vx.cells.size = n := by rw [← h1]; simpa using hp.1.symm
            have hul : vx.cells.toList.length = n := by simpa using hlen
            have hrun := run_storeVar (P := P) (w := w) hn hlen hh (off := 0 * 1 + 0) (by omega) h1c
            have nS : ¬ S b := fun h => by simpa using hl.1 h
            have sp := fun m => get_splice cur.toList vx.cells.toList (0 * 1 + 0) m (by simp only [Array.length_toList] at hul ⊢; omega)
            obtain ⟨s1, s2⟩ := write_ok hσ (k := k) (b := b) (by rw [hμ]; rfl) nS (x := .row true e0 1 p.cells) (cur.toList.take (0 * 1 + 0) ++ vx.cells.toList ++ cur.toList.drop (0 * 1 + 0 + vx.cells.toList.length)).toArray
              (.inr ⟨b, cap, _, by rw [hμ, h1, h2], hl, setRow_heap' b cur _ e0 hh, by omega, g2, by
                simp only [List.size_toArray, List.length_append, List.length_take, List.length_drop, Array.length_toList] at hul ⊢; omega, fun i q hq => by
                have hqc : q.isCell = true := (List.all_eq_true.1 h4) q (List.mem_of_getElem? hq)
                have hq1 : q.cells = [q] := by cases q <;> first | rfl | (simp [PV.isCell] at hqc; done)
                have hi : i < n := by rw [← h1]; exact (List.getElem?_eq_some_iff.1 hq).1
                refine ⟨by rw [hq1]; rfl, fun j r u hr hu => ?_⟩
                rw [hq1] at hr
                cases j with
                | succ j => simp at hr
                | zero =>
                  simp at hr; subst hr
                  have hu' : (cur.toList.take (0 * 1 + 0) ++ vx.cells.toList ++ cur.toList.drop (0 * 1 + 0 + vx.cells.toList.length))[i]? = some u := by simpa using hu
                  rw [sp i, if_neg (by omega), if_pos (by omega), show i - (0 * 1 + 0) = i by omega] at hu'
                  exact (hp.2 i q u hq hu').mono (fun _ h => h) (fun c hc => setRow_other w b c _ (fun e => nS (e ▸ hc)))⟩)
            exact ⟨μ, S, _, hrun, undef_rep, s1, s2⟩
      · cases h
    · cases h
  · cases h
theorem storeZ_ok (hσ : StoRep μ S w σ) {z : Bool} {t : TypeId} {a x : AV} {va vx : Value} {e : Eff} (ha : RepA μ S w a va) (hx : RepA μ S w x vx) (h : storeZ P z t σ a x = some e) :
    EffOkU μ S w σ ((Instr.storeAt t va vx).run P w) e := by
  cases z with
  | false => exact storeE_ok hσ ha hx h
  | true =>
    simp only [storeZ] at h
    cases e1 : storeA P t σ a x with
    | some e' => rw [e1] at h; cases h; exact storeA_ok hσ ha hx e1
    | none => rw [e1] at h; exact storeE_ok hσ ha hx h
end Go.Mir
