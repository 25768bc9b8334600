/- Append, conversions, and each operation at once (lemmas; conditions: what they say). -/
import Derived.Test.YthcmkipbdgndoaaGreatDoorNx9
set_option linter.all false
set_option linter.unusedVariables false
set_option linter.unusedSimpArgs false
set_option linter.unnecessarySimpa false
namespace Go.Mir
open Go Go.RowKit
variable {P : Program} {μ μ' : Nat → Option KS} {S S' : Nat → Prop} {w w' : World} {σ σ' : Store}

theorem run_append_grow' {t tx ty e e' : TypeId} {i : TypeInfo} {z : Value} (ht : P.underlying t = some (.slice e)) (htx : P.underlying tx = some (.slice e')) (hi : P.info? e = some i) (hz : i.zero = some z)
    {a a' : Option Addr} {sLen sCap m c : Nat} {olds news : List Value} (hold : ∀ w' : World, w'.heap = w.heap → (Builtin.firstCells i.size sLen (.slice a sLen sCap)).run P w' = .ok olds.toArray w')
    (hnew : ∀ w' : World, w'.heap = w.heap → (Builtin.firstCells i.size m (.slice a' m c)).run P w' = .ok news.toArray w')
    (hg : sCap < sLen + m) (h63 : sLen + m ≤ 140737488355328) (hfit : (sLen + m) * i.bytes ≤ 140737488355328) :
    (Builtin.append_ #[t, tx] ty #[.slice a sLen sCap, .slice a' m c]).run P w =
      .ok (.slice (some ⟨w.heap.size, 0, none⟩) (sLen + m) (grownCap w (sLen + m) sCap e)) (w.drew.alloc (.cells (olds.toArray ++ news.toArray ++ Builtin.zeroCells z.cells (grownCap w (sLen + m) sCap e - (sLen + m))) e)) := by
  have hn : ¬ (sLen + m ≤ sCap) := by omega
  have h63' : ¬ (9223372036854775807 < ((sLen : Int) + (m : Int))) := by omega
  have h48' : ¬ (281474976710656 < Builtin.nextslicecap (sLen + m) sCap * i.bytes) := by have := growslice_fits hg hfit; omega
  have hf := hnew w.drew rfl
  have hfo := hold w.drew rfl
  simp [Builtin.append_, run_underlying ht, run_underlying htx, sizeOf, typeInfo, zeroValue, hi, hz, Builtin.lenOf, hn, h63', h48', Question.forced, hf, hfo, newRow, grownCap]
  congr 2
  apply Array.ext'
  simp [List.append_assoc]

theorem run_append_room' {t tx ty e e' : TypeId} {i : TypeInfo} (ht : P.underlying t = some (.slice e)) (htx : P.underlying tx = some (.slice e')) (hi : P.info? e = some i)
    {b sLen sCap m c : Nat} {a' : Option Addr} {cur : Array Value} {news : List Value} (hb : w.heap[b]? = some (.cells cur e (0, 0)))
    (hnew : ∀ w' : World, w'.heap = w.heap → (Builtin.firstCells i.size m (.slice a' m c)).run P w' = .ok news.toArray w') (h1 : ∀ u ∈ news, u.oneCell' = true)
    (hroom : sLen + m ≤ sCap) (hfit : sLen * i.size + news.length ≤ cur.size) :
    (Builtin.append_ #[t, tx] ty #[.slice (some ⟨b, 0, none⟩) sLen sCap, .slice a' m c]).run P w =
      .ok (.slice (some ⟨b, 0, none⟩) (sLen + m) sCap) (w.setRow b (cur.toList.take (sLen * i.size) ++ news ++ cur.toList.drop (sLen * i.size + news.length)).toArray) := by
  have hf := hnew w rfl
  have hst := run_storeCells_at P b (sLen * i.size) e news 0 cur w hb (by simpa using hfit) h1
  simp only [Nat.add_zero] at hst
  simp [Builtin.append_, run_underlying ht, run_underlying htx, sizeOf, typeInfo, hi, Builtin.lenOf, hroom, hf, add_at, hst]

theorem run_append_none' {t tx ty e e' : TypeId} {i : TypeInfo} (ht : P.underlying t = some (.slice e)) (htx : P.underlying tx = some (.slice e')) (hi : P.info? e = some i)
    {a a' : Option Addr} {c : Nat} (hnew : ∀ w' : World, w'.heap = w.heap → (Builtin.firstCells i.size 0 (.slice a' 0 c)).run P w' = .ok #[] w') :
    (Builtin.append_ #[t, tx] ty #[.slice a 0 0, .slice a' 0 c]).run P w = .ok (.slice a 0 0) w := by
  have hf := hnew w rfl
  cases a <;> simp [Builtin.append_, run_underlying ht, run_underlying htx, sizeOf, typeInfo, hi, Builtin.lenOf, hf, storeCells]

theorem run_append_nothing {t tx ty e e' : TypeId} {i : TypeInfo} (ht : P.underlying t = some (.slice e)) (htx : P.underlying tx = some (.slice e')) (hi : P.info? e = some i)
    {a a' : Option Addr} {n c : Nat} (hnew : ∀ w' : World, w'.heap = w.heap → (Builtin.firstCells i.size 0 (.slice a' 0 c)).run P w' = .ok #[] w') :
    (Builtin.append_ #[t, tx] ty #[.slice a n n, .slice a' 0 c]).run P w = .ok (.slice a n n) w := by
  have hf := hnew w rfl
  cases a <;> simp [Builtin.append_, run_underlying ht, run_underlying htx, sizeOf, typeInfo, hi, Builtin.lenOf, hf, storeCells]

/-- Room for what grows. -/
theorem grown_size {z : Value} {s n cap : Nat} {olds news : List Value} (hz : z.cells.size = s) (hl : olds.length + news.length = n * s) (hle : n ≤ cap) : (olds.toArray ++ news.toArray ++ Builtin.zeroCells z.cells (cap - n)).size = cap * s := by
  simp only [Array.size_append, List.size_toArray, size_zeroCells, hz, hl, ← Nat.add_mul]
  congr 1
  omega

theorem run_append_zeros {t tx ty e : TypeId} {i : TypeInfo} {z : Value} {kt : IntKind} (ht : P.underlying t = some (.slice e)) (htx : P.underlying tx = some (.int kt)) (hi : P.info? e = some i) (hz : i.zero = some z)
    {a : Option Addr} {m : Nat} (h0 : 0 < m) (hs : 0 < i.size) (h63 : m ≤ 140737488355328) (hfit : m * i.bytes ≤ 140737488355328) :
    (Builtin.append_ #[t, tx] ty #[.slice a 0 0, .int .i64 m]).run P w =
      .ok (.slice (some ⟨w.heap.size, 0, none⟩) m (grownCap w m 0 e)) (w.drew.alloc (.cells (Builtin.zeroCells z.cells m ++ Builtin.zeroCells z.cells (grownCap w m 0 e - m)) e)) := by
  have hn : ¬ (m ≤ 0) := by omega
  have hw : IntKind.i64.wrap (m : Int) = m := by
    unfold IntKind.wrap
    simp only [show IntKind.i64.bits = 64 from rfl, show IntKind.i64.signed = true from rfl]
    split <;> rename_i h <;> simp at h <;> omega
  have hb : ¬ (281474976710656 < (m : Int) * (i.bytes : Int)) := by
    have : ((m * i.bytes : Nat) : Int) ≤ 140737488355328 := by omega
    rw [Int.natCast_mul] at this; omega
  have h63' : ¬ (9223372036854775807 < (m : Int)) := by omega
  have h48' : ¬ (281474976710656 < Builtin.nextslicecap m 0 * i.bytes) := by
    have := growslice_fits (bytes := i.bytes) (need := m) (old := 0) (by omega) hfit; omega
  have hne : ¬ (m * i.size = 0) := fun h => by rcases Nat.mul_eq_zero.1 h with h | h <;> omega
  have hm0 : ¬ (m = 0) := by omega
  have hi0 : ¬ (i.size = 0) := by omega
  have hneg : ¬ ((m : Int) < 0) := by omega
  cases a <;> simp [loadCells, loadCellsFrom, hm0, hi0, hneg, Builtin.append_, run_underlying ht, run_underlying htx, sizeOf, typeInfo, zeroValue, hi, hz, asInt, asIntOf, hw, hb, hn, h63', h48', hne, Question.forced, newRow, grownCap, Builtin.firstCells]
theorem appendZ_ok (hσ : StoRep μ S w σ) {t tx ty : TypeId} {s x : AV} {vs vx : Value} {k : Nat} {e : Eff} (hs : RepA μ S w s vs) (hx : RepA μ S w x vx) (h : appendZ P t tx s x k σ = some e) :
    EffOk μ S w σ ((Builtin.append_ #[t, tx] ty #[vs, vx]).run P w) e := by
  unfold appendZ at h
  split at h
  · rename_i el kt i ht htx
    have hvx : vx = .int .i64 i := by cases hx with | pv hp => cases hp with | lit _ => rfl
    subst hvx
    obtain ⟨a, rfl⟩ : ∃ a, vs = .slice a 0 0 := by
      cases hs with
      | pv hp => cases hp with | sl _ _ _ _ hf => obtain rfl := hf rfl; exact ⟨_, rfl⟩
    split at h
    · rename_i n z b hn hz hb
      split at h
      · rename_i hcond
        obtain ⟨c1, c2, c3, c4, c5, c6⟩ := hcond
        obtain ⟨inf, zv, hi, hzi, hov, hzr⟩ := zr_run hz
        obtain ⟨zq1, zq2⟩ := ofValue_rep (S := S) (w := w) hov
        have hzs : zv.cells.size = n := by rw [← c1]; have := (cells_PWp zq1 zq2).1.1; simpa using this.symm
        have hsi : inf.size = n := by simpa [sz, hi] using hn
        have hbi : inf.bytes = b := by simpa [byt, hi] using hb
        obtain ⟨m, rfl⟩ : ∃ m : Nat, i = m := ⟨i.toNat, by omega⟩
        have hmb : m * b ≤ 140737488355328 := by
          rw [← Int.natCast_mul] at c6; omega
        have hrun := run_append_zeros (P := P) (w := w) (ty := ty) ht htx hi hzi (a := a) (m := m) (by omega) (by omega) (by omega) (by rw [hbi]; exact hmb)
        have hge := grownCap_ge w m 0 el
        have hml := grownCap_le_maxLen w m 0 el (by unfold maxLen; omega)
        unfold newE at h
        split at h
        · rename_i hk
          cases h
          have hd : StoRep μ S w.drew σ := ⟨fun k b h => BlkRep.mono (w := w) (w' := w.drew) (KeysOk.refl _) (fun _ h => h) (fun _ _ => rfl) rfl (fun _ _ => ⟨Iff.rfl, rfl⟩) (hσ.blk k b h), hσ.dom, hσ.inj, hσ.lt, hσ.slt⟩
          have r0 : RowRel S w n (List.replicate m z) (Builtin.zeroCells zv.cells m).toList := by
            have := RowRel.made (n := m) (cap := m) zq1 zq2 c1 c3 (Nat.le_refl _)
            rw [← hzs] at this ⊢
            exact this
          have rr : RowRel S w.drew n (List.replicate m z) (Builtin.zeroCells zv.cells m ++ Builtin.zeroCells zv.cells (grownCap w m 0 el - m)).toList := by
            have := RowRel.append (fs := []) (b := []) (c := (Builtin.zeroCells zv.cells (grownCap w m 0 el - m)).toList) r0 (by simp [Builtin.zeroCells, hzs]) ⟨by simp, fun i p hp => by simp at hp⟩ (by simp)
            have this := RowRel.mono (S' := S) (w := w) (w' := w.drew) (fun _ h => h) (fun _ _ => rfl) this
            simpa using this
          obtain ⟨s1, s2⟩ := row_new hd hk (t := el) (s := n) (cap := grownCap w m 0 el) rr (by simpa using hge) hml (by
            simp only [Array.size_append, size_zeroCells, hzs, ← Nat.add_mul]
            congr 1; omega)
          exact ⟨_, _, S, _, hrun, ms_new k _ _ n _ _ hge _ (by simp), by have := s1; simp only [applyMem, List.nil_append, Int.toNat_natCast]; exact this, (Ext.drew μ S w).trans s2⟩
        · cases h
      · cases h
    · cases h
  · cases h
theorem appendE_ok (hσ : StoRep μ S w σ) {t tx ty : TypeId} {s x : AV} {vs vx : Value} {k : Nat} {e : Eff} (hs : RepA μ S w s vs) (hx : RepA μ S w x vx) (h : appendE P t tx s x k σ = some e) :
    EffOk μ S w σ ((Builtin.append_ #[t, tx] ty #[vs, vx]).run P w) e := by
  unfold appendE at h
  split at h
  · rename_i el el' news ks ht htx hel
    split at h
    · rename_i n z b hn hz hb
      split at h
      · rename_i hcond
        obtain ⟨c1, c2, c3, c4, c5⟩ := hcond
        obtain ⟨i, zv, hi, hzi, hov, hzr⟩ := zr_run hz
        obtain ⟨zq1, zq2⟩ := ofValue_rep (S := S) (w := w) hov
        have hzs : zv.cells.size = n := by rw [← c1]; have := (cells_PWp zq1 zq2).1.1; simpa using this.symm
        have hsi : i.size = n := by simpa [sz, hi] using hn
        have hbi : i.bytes = b := by simpa [byt, hi] using hb
        have hnews : ∀ (j : Nat) (p : PV), news[j]? = some p → p.cells.length = n := fun j p hp => by
          have := List.all_eq_true.1 c4 p (List.mem_of_getElem? hp); simpa using this
        obtain ⟨a', cc, ncs, rfl, nl, nrel, nrun⟩ := elems_ok (P := P) hσ hx hel hnews c2
        have n1 : ∀ u ∈ ncs, u.oneCell' = true := by
          intro u hu
          obtain ⟨m, hm, rfl⟩ := List.getElem_of_mem hu
          have hi' : m / n < news.length := Nat.div_lt_of_lt_mul (by rw [Nat.mul_comm]; omega)
          have hmod : m % n < n := Nat.mod_lt _ c2
          have hp := List.getElem?_eq_getElem hi'
          obtain ⟨e1, h2⟩ := nrel.2 _ _ hp
          have hq := List.getElem?_eq_getElem (l := (news[m / n]).cells) (i := m % n) (by omega)
          have he : m / n * n + m % n = m := by rw [Nat.mul_comm]; exact Nat.div_add_mod m n
          have hr := h2 _ _ ncs[m] hq (by rw [he]; exact List.getElem?_eq_getElem hm)
          have hc := List.all_eq_true.1 (List.all_eq_true.1 c5 _ (List.getElem_mem hi')) _ (List.getElem_mem (l := (news[m / n]).cells) (n := m % n) (by omega))
          exact (rep_cell hr hc).1
        -- the new row, laid
        have grow : ∀ {σ1 : Store} {μ1 : Nat → Option KS} {es : List PV} {ocs : List Value} {a : Option Addr} {cap : Nat}, StoRep μ1 S w σ1 → lk σ1 k = none → RowRel S w n es ocs → ocs.length = es.length * n → cap < es.length + news.length → (es.length + news.length) * b ≤ 140737488355328 →
            (∀ w' : World, w'.heap = w.heap → (Builtin.firstCells n es.length (.slice a es.length cap)).run P w' = .ok ocs.toArray w') →
            ∃ v' μ' w', (Builtin.append_ #[t, tx] ty #[.slice a es.length cap, .slice a' news.length cc]).run P w = .ok v' w' ∧ RepA μ' S w' (.ms k 0 (es.length + news.length) true) v' ∧ StoRep μ' S w' (ins k (.row true el n (es ++ news)) σ1) ∧ Ext μ1 S w μ' S w' := by
          intro σ1 μ1 es ocs a cap hσ1 hk1 hrel hol hcap hbb hold
          have h47 : es.length + news.length ≤ 140737488355328 := Nat.le_trans (Nat.le_mul_of_pos_right _ c3) hbb
          have hrun := run_append_grow' (P := P) (w := w) (ty := ty) ht htx hi hzi (a := a) (a' := a') (sLen := es.length) (sCap := cap) (m := news.length) (c := cc) (olds := ocs) (news := ncs) (by rw [hsi]; exact hold) (by rw [hsi]; exact nrun) hcap h47 (by rw [hbi]; exact hbb)
          have hge := grownCap_ge w (es.length + news.length) cap el
          have hml := grownCap_le_maxLen w (es.length + news.length) cap el (by unfold maxLen; omega)
          have hd : StoRep μ1 S w.drew σ1 := by
            exact ⟨fun k b h => BlkRep.mono (w := w) (w' := w.drew) (KeysOk.refl _) (fun _ h => h) (fun _ _ => rfl) rfl (fun _ _ => ⟨Iff.rfl, rfl⟩) (hσ1.blk k b h), hσ1.dom, hσ1.inj, hσ1.lt, hσ1.slt⟩
          have rr : RowRel S w.drew n (es ++ news) (ocs.toArray ++ ncs.toArray ++ Builtin.zeroCells zv.cells (grownCap w (es.length + news.length) cap el - (es.length + news.length))).toList := by
            have := RowRel.append (c := (Builtin.zeroCells zv.cells (grownCap w (es.length + news.length) cap el - (es.length + news.length))).toList) hrel hol nrel nl
            have this := RowRel.mono (S' := S) (w := w) (w' := w.drew) (fun _ h => h) (fun _ _ => rfl) this
            simpa using this
          obtain ⟨s1, s2⟩ := row_new hd hk1 (t := el) (s := n) (cap := grownCap w (es.length + news.length) cap el) rr (by simpa using hge) hml (grown_size hzs (by rw [hol, nl, ← Nat.add_mul]) hge)
          exact ⟨_, _, _, hrun, ms_new k _ _ n _ _ hge _ (by simp), s1, (Ext.drew μ1 S w).trans s2⟩
        split at h
        · rename_i r off len own
          split at h
          · rename_i e' s' es he
            split at h
            · rename_i hc
              obtain ⟨rfl, rfl, rfl, d1, d2⟩ := hc
              unfold newE at h
              split at h
              · rename_i hk
                cases h
                have hrk : r ≠ k := fun e => by rw [e, hk] at he; cases he
                have hk1 : lk (ins r .stale σ) k = none := by rw [lk_ins, if_neg hrk, hk]
                -- the old name goes
                have stale : ∀ m, μ r = some m → StoRep (updK μ r .stale) S w (ins r .stale σ) ∧ Ext μ S w (updK μ r .stale) S w := by
                  intro m hm
                  have ko : KeysOk μ (updK μ r .stale) := fun j x hj => by
                    by_cases e : j = r
                    · subst e; exact .inr (updK_same _ _)
                    · exact .inl (by rw [updK_ne e]; exact hj)
                  refine ⟨hσ.upd ko (fun _ h => h) (fun _ _ => rfl) (Nat.le_refl _) r .stale (fun j => lk_ins r j _ σ) (updK_same _ _) (fun j hj => updK_ne hj _) (fun j b hj ho => ⟨⟨Iff.rfl, rfl⟩, by rw [updK_same]; exact id⟩) (fun b hb => by rw [updK_same] at hb; exact hb.elim) hσ.slt,
                    ⟨ko, fun _ h => h, fun _ _ => rfl, fun _ _ _ => rfl, fun j b hj => ?_, fun _ h => .inl h, Nat.le_refl _, rfl, rfl, rfl⟩⟩
                  by_cases e : j = r
                  · subst e; rw [updK_same] at hj; exact hj.elim
                  · rw [updK_ne e] at hj; exact .inl ⟨j, hj⟩
                cases hs with
                | ms hm =>
                  rcases hσ.blk r _ he with ⟨g1, g2⟩ | ⟨bb, cap, cur, hμ, hl, hh, h1, h2, h3, hc⟩
                  · rw [g2] at hm
                    obtain ⟨_, _, a, rfl⟩ := hm
                    subst g1
                    obtain ⟨t1, t2⟩ := stale _ g2
                    by_cases hm0 : news.length = 0
                    · have hn0 : news = [] := List.eq_nil_of_length_eq_zero hm0
                      subst hn0
                      have hnc : ncs = [] := List.eq_nil_of_length_eq_zero (by simpa using nl)
                      subst hnc
                      have hrun := run_append_none' (P := P) (w := w) (ty := ty) ht htx hi (a := a) (a' := a') (c := cc) (by rw [hsi]; exact nrun)
                      have ko := keysOk_new (t1.dom k hk1) .nil
                      refine ⟨.slice a 0 0, updK (updK μ r .stale) k .nil, S, w, hrun, .ms (by rw [updK_same]; exact ⟨rfl, rfl, a, rfl⟩), ?_, t2.trans ?_⟩
                      · show StoRep _ S w (applyMem σ ([(r, .stale)] ++ [(k, _)]))
                        rw [applyMem_append]
                        exact t1.upd ko (fun _ h => h) (fun _ _ => rfl) (Nat.le_refl _) k _ (fun j => lk_ins k j _ _) (.inl ⟨rfl, updK_same _ _⟩) (fun j hj => updK_ne hj _) (fun j b hj ho => ⟨⟨Iff.rfl, rfl⟩, by rw [updK_same]; exact id⟩) (fun b hb => by rw [updK_same] at hb; exact hb.elim) t1.slt
                      · refine ⟨ko, fun _ h => h, fun _ _ => rfl, fun _ _ _ => rfl, fun j b hj => ?_, fun _ h => .inl h, Nat.le_refl _, rfl, rfl, rfl⟩
                        by_cases e : j = k
                        · subst e; rw [updK_same] at hj; exact hj.elim
                        · rw [updK_ne e] at hj; exact .inl ⟨j, hj⟩
                    · obtain ⟨v', μ', w', g3, g4, g5, g6⟩ := grow (es := []) (ocs := []) (a := a) (cap := 0) t1 hk1 ⟨by simp, fun i p hp => by simp at hp⟩ (by simp) (by simp; omega) (by simpa using d2) (fun w' _ => by
                        cases a with
                        | none => simp [Builtin.firstCells]
                        | some ad => simp [Builtin.firstCells, loadCells, loadCellsFrom])
                      refine ⟨v', μ', S, w', g3, g4, ?_, t2.trans g6⟩
                      show StoRep _ S w' (applyMem σ ([(r, .stale)] ++ [(k, _)]))
                      rw [applyMem_append]
                      exact g5
                  · rw [hμ] at hm
                    obtain ⟨a, c, rfl, hlc, ha, ho⟩ := hm
                    obtain ⟨rfl, rfl, rfl, rfl⟩ := ho rfl
                    obtain ⟨t1, t2⟩ := stale _ hμ
                    have nS : ¬ S bb := fun h => by simpa using hl.1 h
                    have hold : RowRel S w s' es (cur.toList.take (es.length * s')) := by
                      have hle : es.length * s' ≤ cur.size := by rw [h3]; exact Nat.mul_le_mul_right _ h1
                      refine ⟨by rw [List.length_take]; simp; omega, fun i p hp => ⟨(hc i p hp).1, fun j q v hq hv => (hc i p hp).2 j q v hq ?_⟩⟩
                      rw [List.getElem?_take] at hv
                      split at hv
                      · simpa using hv
                      · cases hv
                    have hol : (cur.toList.take (es.length * s')).length = es.length * s' := by
                      have hle : es.length * s' ≤ cur.size := by rw [h3]; exact Nat.mul_le_mul_right _ h1
                      rw [List.length_take]; simp; omega
                    by_cases hroom : es.length + news.length ≤ c
                    · have hfit : es.length * i.size + ncs.length ≤ cur.size := by rw [hsi, nl, h3, ← Nat.add_mul]; exact Nat.mul_le_mul_right _ hroom
                      have hrun := run_append_room' (P := P) (w := w) (ty := ty) ht htx hi (b := bb) (sLen := es.length) (sCap := c) (m := news.length) (c := cc) (a' := a') (cur := cur) (news := ncs) hh (by rw [hsi]; exact nrun) n1 hroom hfit
                      rw [hsi] at hrun
                      have ne : ∀ c', c' ≠ bb → (w.setRow bb (cur.toList.take (es.length * s') ++ ncs ++ cur.toList.drop (es.length * s' + ncs.length)).toArray).heap[c']? = w.heap[c']? := fun c' hc' => setRow_other w bb c' _ hc'
                      have ko := keysOk_new (t1.dom k hk1) (.row bb c s' (es ++ news).length)
                      have neS : ∀ c', S c' → c' ≠ bb := fun c' hc' e => nS (e ▸ hc')
                      have own_r : owns (μ r) bb := by rw [hμ]; rfl
                      refine ⟨_, updK (updK μ r .stale) k (.row bb c s' (es ++ news).length), S, _, hrun, ms_new k _ _ s' _ _ hroom _ (by simp), ?_, ?_⟩
                      · show StoRep _ S _ (applyMem σ ([(r, .stale)] ++ [(k, _)]))
                        rw [applyMem_append]
                        refine t1.upd ko (fun _ h => h) (fun c' hc' => ne c' (neS c' hc')) (by simp) k _ (fun j => lk_ins k j _ _) ?_ (fun j hj => updK_ne hj _) (fun j c' hj hoj => ?_) (fun c' hc' => ?_) (fun c' hc' => by simpa using hσ.slt c' hc')
                        · have rr := RowRel.append (c := cur.toList.drop (es.length * s' + ncs.length)) hold hol nrel nl
                          refine .inr ⟨bb, c, _, updK_same _ _, hl, setRow_heap' bb cur _ _ hh, by simpa using hroom, h2, ?_, fun i p hp => ⟨(rr.2 i p hp).1, fun j q v hq hv => ((rr.2 i p hp).2 j q v hq (by simpa using hv)).mono (fun _ h => h) (fun c' hc' => ne c' (neS c' hc'))⟩⟩
                          rw [hsi] at hfit
                          simp only [List.size_toArray, List.length_append, hol, List.length_drop, Array.length_toList]
                          omega
                        · have hjr : j ≠ r := fun e => by subst e; rw [updK_same] at hoj; exact hoj.elim
                          rw [updK_ne hjr] at hoj
                          refine ⟨⟨Iff.rfl, ne c' fun e => ?_⟩, fun ho' => ?_⟩
                          · subst e; exact hjr (hσ.inj j r c' hoj own_r)
                          · rw [updK_same] at ho'
                            obtain rfl : bb = c' := ho'
                            exact hjr (hσ.inj j r bb hoj own_r)
                        · rw [updK_same] at hc'
                          obtain rfl : bb = c' := hc'
                          simpa using hσ.lt r bb own_r
                      · refine ⟨t2.keys.trans ko, fun _ h => h, fun c' hc' => ne c' (neS c' hc'), fun c' hc' hn' => ne c' fun e => hn' r (e ▸ own_r), fun j c' hj => ?_, fun _ h => .inl h, by simp, rfl, rfl, rfl⟩
                        by_cases e : j = k
                        · subst e
                          rw [updK_same] at hj
                          obtain rfl : bb = c' := hj
                          exact .inl ⟨r, own_r⟩
                        · rw [updK_ne e] at hj
                          by_cases e2 : j = r
                          · subst e2; rw [updK_same] at hj; exact hj.elim
                          · rw [updK_ne e2] at hj; exact .inl ⟨j, hj⟩
                    · obtain ⟨v', μ', w', g3, g4, g5, g6⟩ := grow (es := es) (a := some ⟨bb, 0, none⟩) (cap := c) t1 hk1 hold hol (by omega) d2 (fun w' hw => run_firstCells_some (P := P) w' s' es.length ⟨bb, 0, none⟩ es.length c _ hol (fun j u hu => by
                        rw [List.getElem?_take] at hu
                        split at hu
                        · rw [add_at, World.cell?_of_block (w := w) (by rw [hw])]; simpa [World.cell?, hh] using hu
                        · cases hu))
                      refine ⟨v', μ', S, w', g3, g4, ?_, t2.trans g6⟩
                      show StoRep _ S w' (applyMem σ ([(r, .stale)] ++ [(k, _)]))
                      rw [applyMem_append]
                      exact g5
              · cases h
            · cases h
          · cases h
        · rename_i es
          split at h
          · rename_i d2
            split at h
            · rename_i hc
              simp only [Bool.and_eq_true, Bool.or_eq_true, List.isEmpty_iff, Bool.not_eq_true', List.isEmpty_eq_false_iff] at hc
              obtain ⟨hc1, hc2⟩ := hc
              have hes : ∀ (j : Nat) (p : PV), es[j]? = some p → p.cells.length = n := fun j p hp => by
                have := List.all_eq_true.1 hc2 p (List.mem_of_getElem? hp); simpa using this
              unfold newE at h
              split at h
              · rename_i hk
                cases h
                cases hs with
                | pv hp =>
                  obtain ⟨a, cap, ocs, rfl, _, hf, hol, hrel, hrun0⟩ := sl_cells (P := P) hp hes c2
                  obtain rfl := hf rfl
                  by_cases hm0 : news.length = 0
                  · have hn0 : news = [] := List.eq_nil_of_length_eq_zero hm0
                    subst hn0
                    have he0 : es = [] := hc1.resolve_right (by simp)
                    subst he0
                    have hnc : ncs = [] := List.eq_nil_of_length_eq_zero (by simpa using nl)
                    subst hnc
                    have hrun := run_append_none' (P := P) (w := w) (ty := ty) ht htx hi (a := a) (a' := a') (c := cc) (by rw [hsi]; exact nrun)
                    have ko := keysOk_new (hσ.dom k hk) .nil
                    refine ⟨.slice a 0 0, updK μ k .nil, S, w, hrun, .ms (by rw [updK_same]; exact ⟨rfl, rfl, a, rfl⟩), ?_, ?_⟩
                    · exact hσ.upd ko (fun _ h => h) (fun _ _ => rfl) (Nat.le_refl _) k _ (fun j => lk_ins k j _ _) (.inl ⟨rfl, updK_same _ _⟩) (fun j hj => updK_ne hj _) (fun j b hj ho => ⟨⟨Iff.rfl, rfl⟩, by rw [updK_same]; exact id⟩) (fun b hb => by rw [updK_same] at hb; exact hb.elim) hσ.slt
                    · refine ⟨ko, fun _ h => h, fun _ _ => rfl, fun _ _ _ => rfl, fun j b hj => ?_, fun _ h => .inl h, Nat.le_refl _, rfl, rfl, rfl⟩
                      by_cases e : j = k
                      · subst e; rw [updK_same] at hj; exact hj.elim
                      · rw [updK_ne e] at hj; exact .inl ⟨j, hj⟩
                  · obtain ⟨v', μ', w', g3, g4, g5, g6⟩ := grow (es := es) (ocs := ocs) (a := a) (cap := es.length) hσ hk hrel hol (by omega) d2 hrun0
                    exact ⟨v', μ', S, w', g3, g4, g5, g6⟩
              · cases h
            · split at h
              · rename_i hne
                cases h
                have hn0 : news = [] := List.isEmpty_iff.1 hne
                subst hn0
                have hnc : ncs = [] := List.eq_nil_of_length_eq_zero (by simpa using nl)
                subst hnc
                cases hs with
                | pv hp =>
                  generalize hv : vs = v at hp
                  have hp2 := hp
                  cases hp with
                  | @sl _ _ a cap s f hn2 hcap hf hs2 ha hr =>
                    obtain rfl := hf rfl
                    exact ⟨_, μ, S, w, by exact run_append_nothing (P := P) (w := w) (ty := ty) ht htx hi (a := a) (a' := a') (c := cc) (by rw [hsi]; exact nrun), .pv hp2, by simpa [applyMem] using hσ, Ext.refl _ _ _⟩
              · cases h
          · cases h
        · cases h
      · cases h
    · cases h
  · cases h
end Go.Mir
