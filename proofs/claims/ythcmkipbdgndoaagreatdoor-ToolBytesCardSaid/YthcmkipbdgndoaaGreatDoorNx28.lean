/- Structs that are compared, slices that are made nought (lemmas; conditions: what they say). -/
import Derived.Laws.StructEq
import Derived.ChangeKeysEq
import Derived.Test.YthcmkipbdgndoaaGreatDoorNx10
set_option linter.all false
set_option linter.unusedVariables false
set_option linter.unusedSimpArgs false
set_option linter.unnecessarySimpa false
namespace Go.Mir
open Go Go.RowKit
variable {P : Program} {μ μ' : Nat → Option KS} {S S' : Nat → Prop} {w w' : World} {σ σ' : Store}

theorem StoRep.again (h : StoRep μ S w σ) {k : Nat} {b : Blk} (hk : lk σ k = some b) : StoRep μ S w (ins k b σ) where
  blk j x hj := by
    rw [lk_ins] at hj
    split at hj
    · rename_i e; subst e; cases hj; exact h.blk _ _ hk
    · exact h.blk _ _ hj
  dom j hj := by
    rw [lk_ins] at hj
    split at hj
    · cases hj
    · exact h.dom _ hj
  inj := h.inj
  lt := h.lt
  slt := h.slt

theorem clearE_ok (hσ : StoRep μ S w σ) {t ty : TypeId} {x : AV} {v : Value} {e : Eff} (hx : RepA μ S w x v) (h : clearE P t x σ = some e) :
    EffOk μ S w σ ((Builtin.clear_ #[t] ty #[v]).run P w) e := by
  unfold clearE at h
  split at h
  · rename_i el k off len own ht
    split at h
    · rename_i e0 s es n z hlk hn hz
      split at h
      · rename_i hc
        obtain ⟨rfl, c1, c2, c3, c4⟩ := hc
        cases h
        obtain ⟨inf, zv, hi, hzi, hov, hzr⟩ := zr_run hz
        obtain ⟨zq1, zq2⟩ := ofValue_rep (S := S) (w := w) hov
        have hzs : zv.cells.size = s := by rw [← c1]; have := (cells_PWp zq1 zq2).1.1; simpa using this.symm
        have none' : len = 0 → es.take off ++ List.replicate len z ++ es.drop (off + len) = es := by rintro rfl; simp
        cases hx with
        | ms hm =>
          rcases hσ.blk k _ hlk with ⟨g1, g2⟩ | ⟨b, cap, cur, hμ, hl, hh, g1, g2, g3, hcells⟩
          · rw [g2] at hm
            obtain ⟨rfl, rfl, a, rfl⟩ := hm
            refine ⟨undef, μ, S, w, ?_, undef_rep, ?_, Ext.refl _ _ _⟩
            · cases a <;> simp [Builtin.clear_, run_underlying ht, undef]
            · simp only [applyMem]; rw [none' rfl]; exact hσ.again hlk
          · rw [hμ] at hm
            obtain ⟨a, c, rfl, h1, h2, _⟩ := hm
            by_cases h0 : len = 0
            · refine ⟨undef, μ, S, w, ?_, undef_rep, ?_, Ext.refl _ _ _⟩
              · subst h0; cases a <;> simp [Builtin.clear_, run_underlying ht, undef]
              · simp only [applyMem]; rw [none' h0]; exact hσ.again hlk
            · have ha : a = some ⟨b, off * s, none⟩ := by
                rcases h2 with h2 | h2
                · omega
                · exact h2
              subst ha
              have hol : (off + len) * s ≤ es.length * s := Nat.mul_le_mul_right s c4
              have hcl : es.length * s ≤ cap * s := Nat.mul_le_mul_right s g1
              rw [Nat.add_mul] at hol
              have hzl : (Builtin.zeroCells zv.cells len).toList.length = len * s := by simp [size_zeroCells, hzs]
              have one : ∀ u ∈ (Builtin.zeroCells zv.cells len).toList, u.oneCell' = true := by
                intro u hu
                simp only [Builtin.zeroCells, Array.toList_map, List.mem_map] at hu
                obtain ⟨i, _, rfl⟩ := hu
                have : i % zv.cells.size < zv.cells.size := Nat.mod_lt _ (by omega)
                rw [getElem!_pos zv.cells _ this]
                exact (cells_PWp zq1 zq2).2 _ (by simp)
              have hst := run_storeCells_at P b (off * s) e0 (Builtin.zeroCells zv.cells len).toList 0 cur w hh (by rw [hzl, g3]; omega) one
              simp only [Nat.add_zero] at hst
              have nS : ¬ S b := fun h => by simpa using hl.1 h
              have hrun : (Builtin.clear_ #[t] ty #[.slice (some ⟨b, off * s, none⟩) len c]).run P w = .ok undef (w.setRow b (cur.toList.take (off * s) ++ (Builtin.zeroCells zv.cells len).toList ++ cur.toList.drop (off * s + (Builtin.zeroCells zv.cells len).toList.length)).toArray) := by
                obtain ⟨m, rfl⟩ : ∃ m, len = m + 1 := ⟨len - 1, by omega⟩
                simp [Builtin.clear_, run_underlying ht, hzr, hst, undef]
              have curL : cur.toList.length = cap * s := by simpa using g3
              have rr : RowRel S w s es cur.toList := ⟨by rw [curL]; exact hcl, fun i p hp => ⟨(hcells i p hp).1, fun j q v h1 h2 => (hcells i p hp).2 j q v h1 (by simpa using h2)⟩⟩
              have r1 : RowRel S w s (es.take off) (cur.toList.take (off * s)) := by
                refine ⟨by simp only [List.length_take, curL]; rw [Nat.min_eq_left (by omega), Nat.min_eq_left (by omega)]; exact Nat.le_refl _, fun i p hp => ?_⟩
                rw [List.getElem?_take] at hp
                split at hp
                · refine ⟨(rr.2 i p hp).1, fun j q v hq hv => (rr.2 i p hp).2 j q v hq ?_⟩
                  rw [List.getElem?_take] at hv
                  split at hv
                  · exact hv
                  · cases hv
                · cases hp
              have r2 : RowRel S w s (List.replicate len z) (Builtin.zeroCells zv.cells len).toList := by
                have := RowRel.made (n := len) (cap := len) zq1 zq2 c1 c3 (Nat.le_refl _)
                rw [← hzs] at this ⊢
                exact this
              have r12 : RowRel S w s (es.take off ++ List.replicate len z) (cur.toList.take (off * s) ++ (Builtin.zeroCells zv.cells len).toList) := by
                have := RowRel.append (c := []) r1 (by simp only [List.length_take, curL]; rw [Nat.min_eq_left (by omega), Nat.min_eq_left (by omega)]) r2 (by rw [hzl]; simp)
                simpa using this
              have hd : off * s + len * s = (off + len) * s := by rw [Nat.add_mul]
              have r3 : RowRel S w s (es.drop (off + len)) ((cur.toList.drop (off * s + len * s)).take ((es.length - (off + len)) * s)) := by
                refine ⟨by simp only [List.length_take, List.length_drop, curL]; rw [Nat.min_eq_left]; exact Nat.le_refl _; rw [Nat.sub_mul, Nat.add_mul]; omega, fun i p hp => ?_⟩
                rw [List.getElem?_drop] at hp
                refine ⟨(rr.2 _ p hp).1, fun j q v hq hv => (rr.2 _ p hp).2 j q v hq ?_⟩
                rw [List.getElem?_take] at hv
                split at hv
                · rw [List.getElem?_drop, hd] at hv
                  rw [Nat.add_mul]
                  rw [← hv]
                  congr 1
                  omega
                · cases hv
              have r := RowRel.append (c := (cur.toList.drop (off * s + len * s)).drop ((es.length - (off + len)) * s)) r12 (by
                simp only [List.length_append, List.length_take, List.length_replicate, hzl, curL]
                rw [Nat.min_eq_left (by omega), Nat.min_eq_left (by omega), Nat.add_mul]) r3 (by
                simp only [List.length_take, List.length_drop, curL]
                rw [Nat.min_eq_left]
                rw [Nat.sub_mul, Nat.add_mul]; omega)
              rw [List.append_assoc _ (List.take _ _) _, List.take_append_drop] at r
              have hlen : (es.take off ++ List.replicate len z ++ es.drop (off + len)).length = es.length := by simp; omega
              obtain ⟨s1, s2⟩ := write_ok hσ (k := k) (b := b) (by rw [hμ]; rfl) nS (x := .row true e0 s (es.take off ++ List.replicate len z ++ es.drop (off + len)))
                (cur.toList.take (off * s) ++ (Builtin.zeroCells zv.cells len).toList ++ cur.toList.drop (off * s + (Builtin.zeroCells zv.cells len).toList.length)).toArray
                (.inr ⟨b, cap, _, by rw [hlen]; exact hμ, hl, setRow_heap' b cur _ e0 hh, by rw [hlen]; exact g1, g2, by
                  simp only [List.size_toArray, List.length_append, List.length_take, List.length_drop, hzl, curL]
                  rw [Nat.min_eq_left (by omega)]; omega, fun i p hp => ⟨(r.2 i p hp).1, fun j q v hq hv => ((r.2 i p hp).2 j q v hq (by rw [hzl] at hv; simpa using hv)).mono (fun _ h => h) (fun c hc => setRow_other w b c _ (fun e => nS (e ▸ hc)))⟩⟩)
              exact ⟨undef, μ, S, _, hrun, undef_rep, s1, s2⟩
      · cases h
    · cases h
  · cases h

theorem copyE_ok (hσ : StoRep μ S w σ) {t tx ty : TypeId} {x y : AV} {v u : Value} {e : Eff} (hx : RepA μ S w x v) (hy : RepA μ S w y u) (h : copyE P t x y σ = some e) :
    EffOk μ S w σ ((Builtin.copy_ #[t, tx] ty #[v, u]).run P w) e := by
  unfold copyE at h
  split at h
  · rename_i el k off len own fs ks ht hel
    split at h
    · rename_i e0 s es n hlk hn
      split at h
      · rename_i hc
        obtain ⟨rfl, c2, c4, c5, c6, c7⟩ := hc
        cases h
        have hnews : ∀ (j : Nat) (p : PV), fs[j]? = some p → p.cells.length = s := fun j p hp => by
          have := List.all_eq_true.1 c6 p (List.mem_of_getElem? hp); simpa using this
        obtain ⟨a', cc, ncs, rfl, nl, nrel, nrun⟩ := elems_ok (P := P) hσ hy hel hnews c2
        have n1 : ∀ u ∈ ncs, u.oneCell' = true := by
          intro u hu
          obtain ⟨m, hm, rfl⟩ := List.getElem_of_mem hu
          have hi' : m / s < fs.length := Nat.div_lt_of_lt_mul (by rw [Nat.mul_comm]; omega)
          have hmod : m % s < s := Nat.mod_lt _ c2
          have hp := List.getElem?_eq_getElem hi'
          obtain ⟨e1, h2⟩ := nrel.2 _ _ hp
          have hq := List.getElem?_eq_getElem (l := (fs[m / s]).cells) (i := m % s) (by omega)
          have he : m / s * s + m % s = m := by rw [Nat.mul_comm]; exact Nat.div_add_mod m s
          have hr := h2 _ _ ncs[m] hq (by rw [he]; exact List.getElem?_eq_getElem hm)
          have hc := List.all_eq_true.1 (List.all_eq_true.1 c7 _ (List.getElem_mem hi')) _ (List.getElem_mem (l := (fs[m / s]).cells) (n := m % s) (by omega))
          exact (rep_cell hr hc).1
        obtain ⟨inf, hi, hsi⟩ : ∃ inf, P.info? el = some inf ∧ inf.size = s := by
          unfold sz at hn
          cases hq : P.info? el with
          | none => simp [hq] at hn
          | some i => exact ⟨i, rfl, by simpa [hq] using hn⟩
        have none' : fs = [] → es.take off ++ fs ++ es.drop (off + fs.length) = es := by rintro rfl; simp
        have hint : RepA μ S w (.pv (.lit (.int .i64 fs.length))) (goInt fs.length) := .pv (.lit rfl)
        cases hx with
        | ms hm =>
          by_cases h0 : fs = []
          · refine ⟨goInt fs.length, μ, S, w, ?_, hint, ?_, Ext.refl _ _ _⟩
            · obtain ⟨a, c, rfl⟩ : ∃ a c, v = .slice a len c := by
                rcases hσ.blk k _ hlk with ⟨g1, g2⟩ | ⟨b, cap, cur, hμ, _⟩
                · rw [g2] at hm; obtain ⟨rfl, rfl, a, rfl⟩ := hm; exact ⟨a, 0, rfl⟩
                · rw [hμ] at hm; obtain ⟨a, c, rfl, _⟩ := hm; exact ⟨a, c, rfl⟩
              subst h0
              have hz : ncs = [] := List.eq_nil_of_length_eq_zero (by simpa using nl)
              have nr : (Builtin.firstCells s 0 (.slice a' 0 cc)).run P w = .ok #[] w := by have := nrun w rfl; rw [hz] at this; exact this
              have m0 : Nat.min 0 len = 0 := Nat.min_eq_left (Nat.zero_le _)
              cases a <;> simp [Builtin.copy_, run_underlying ht, Builtin.lenOf, sizeOf, typeInfo, hi, hsi, m0, nr, storeCells]
            · simp only [applyMem]; rw [none' h0]; exact hσ.again hlk
          · have hpos : 0 < fs.length := List.length_pos_iff.2 h0
            rcases hσ.blk k _ hlk with ⟨g1, g2⟩ | ⟨b, cap, cur, hμ, hl, hh, g1, g2, g3, hcells⟩
            · rw [g2] at hm
              obtain ⟨rfl, rfl, a, rfl⟩ := hm
              omega
            · rw [hμ] at hm
              obtain ⟨a, c, rfl, h1, h2, _⟩ := hm
              have ha : a = some ⟨b, off * s, none⟩ := by
                rcases h2 with h2 | h2
                · omega
                · exact h2
              subst ha
              have hol : (off + fs.length) * s ≤ es.length * s := Nat.mul_le_mul_right s (by omega)
              have hcl : es.length * s ≤ cap * s := Nat.mul_le_mul_right s g1
              rw [Nat.add_mul] at hol
              have hst := run_storeCells_at P b (off * s) e0 ncs 0 cur w hh (by rw [nl, g3]; omega) n1
              simp only [Nat.add_zero] at hst
              have nS : ¬ S b := fun h => by simpa using hl.1 h
              have hmin : Nat.min fs.length len = fs.length := Nat.min_eq_left c5
              have hrun : (Builtin.copy_ #[t, tx] ty #[.slice (some ⟨b, off * s, none⟩) len c, .slice a' fs.length cc]).run P w = .ok (goInt fs.length) (w.setRow b (cur.toList.take (off * s) ++ ncs ++ cur.toList.drop (off * s + ncs.length)).toArray) := by
                have nr := nrun w rfl
                simp [Builtin.copy_, run_underlying ht, Builtin.lenOf, sizeOf, typeInfo, hi, hsi, hmin, nr, hst]
              have curL : cur.toList.length = cap * s := by simpa using g3
              have rr : RowRel S w s es cur.toList := ⟨by rw [curL]; exact hcl, fun i p hp => ⟨(hcells i p hp).1, fun j q v h1 h2 => (hcells i p hp).2 j q v h1 (by simpa using h2)⟩⟩
              have r1 : RowRel S w s (es.take off) (cur.toList.take (off * s)) := by
                refine ⟨by simp only [List.length_take, curL]; rw [Nat.min_eq_left (by omega), Nat.min_eq_left (by omega)]; exact Nat.le_refl _, fun i p hp => ?_⟩
                rw [List.getElem?_take] at hp
                split at hp
                · refine ⟨(rr.2 i p hp).1, fun j q v hq hv => (rr.2 i p hp).2 j q v hq ?_⟩
                  rw [List.getElem?_take] at hv
                  split at hv
                  · exact hv
                  · cases hv
                · cases hp
              have r12 : RowRel S w s (es.take off ++ fs) (cur.toList.take (off * s) ++ ncs) := by
                have := RowRel.append (c := []) r1 (by simp only [List.length_take, curL]; rw [Nat.min_eq_left (by omega), Nat.min_eq_left (by omega)]) nrel nl
                simpa using this
              have hd : off * s + fs.length * s = (off + fs.length) * s := by rw [Nat.add_mul]
              have r3 : RowRel S w s (es.drop (off + fs.length)) ((cur.toList.drop (off * s + fs.length * s)).take ((es.length - (off + fs.length)) * s)) := by
                refine ⟨by simp only [List.length_take, List.length_drop, curL]; rw [Nat.min_eq_left]; exact Nat.le_refl _; rw [Nat.sub_mul, Nat.add_mul]; omega, fun i p hp => ?_⟩
                rw [List.getElem?_drop] at hp
                refine ⟨(rr.2 _ p hp).1, fun j q v hq hv => (rr.2 _ p hp).2 j q v hq ?_⟩
                rw [List.getElem?_take] at hv
                split at hv
                · rw [List.getElem?_drop, hd] at hv
                  rw [Nat.add_mul]
                  rw [← hv]
                  congr 1
                  omega
                · cases hv
              have r := RowRel.append (c := (cur.toList.drop (off * s + fs.length * s)).drop ((es.length - (off + fs.length)) * s)) r12 (by
                simp only [List.length_append, List.length_take, nl, curL]
                rw [Nat.min_eq_left (by omega), Nat.min_eq_left (by omega), Nat.add_mul]) r3 (by
                simp only [List.length_take, List.length_drop, curL]
                rw [Nat.min_eq_left]
                rw [Nat.sub_mul, Nat.add_mul]; omega)
              rw [List.append_assoc _ (List.take _ _) _, List.take_append_drop] at r
              have hlen : (es.take off ++ fs ++ es.drop (off + fs.length)).length = es.length := by simp; omega
              obtain ⟨s1, s2⟩ := write_ok hσ (k := k) (b := b) (by rw [hμ]; rfl) nS (x := .row true e0 s (es.take off ++ fs ++ es.drop (off + fs.length)))
                (cur.toList.take (off * s) ++ ncs ++ cur.toList.drop (off * s + ncs.length)).toArray
                (.inr ⟨b, cap, _, by rw [hlen]; exact hμ, hl, setRow_heap' b cur _ e0 hh, by rw [hlen]; exact g1, g2, by
                  simp only [List.size_toArray, List.length_append, List.length_take, List.length_drop, nl, curL]
                  rw [Nat.min_eq_left (by omega)]; omega, fun i p hp => ⟨(r.2 i p hp).1, fun j q v hq hv => ((r.2 i p hp).2 j q v hq (by rw [nl] at hv; simpa using hv)).mono (fun _ h => h) (fun c hc => setRow_other w b c _ (fun e => nS (e ▸ hc)))⟩⟩)
              exact ⟨goInt fs.length, μ, S, _, hrun, .pv (.lit rfl), s1, s2⟩
      · cases h
    · cases h
  · cases h

theorem fieldsOf_eq {t : TypeId} {fs : Array Field} (h : P.underlying t = some (.struct fs)) : P.fieldsOf t = fs := by simp [Program.fieldsOf, h]

theorem eqF_ok {g : TypeId → PV → PV → Option Bool} {d : Nat} (hg : ∀ t x y b v u, g t x y = some b → Rep S w x v → Rep S w y u → (Op.equalIn d t v u).run P w = .ok b w) {cs ds : List PV} {vs us : Array Value} (hc : PW (RepA (fun _ => none) S w) (cs.map .pv) vs.toList) (hd : PW (RepA (fun _ => none) S w) (ds.map .pv) us.toList) :
    ∀ {fs : List Field} {b : Bool}, eqF g P cs ds fs = some b → (Op.eqFields d vs us fs).run P w = .ok b w
  | [], b, h => by cases h; rfl
  | f :: fs, b, h => by
    unfold eqF at h
    split at h
    · rename_i p _ _ q _ _ hn hp hq
      obtain ⟨v, r1, r2, _⟩ := partE_ok hc hp
      obtain ⟨u, q1, q2, _⟩ := partE_ok hd hq
      split at h
      · rename_i a b' ha hb
        cases h
        have hn' : f.name ≠ "_" := by simpa using hn
        have he := hg _ _ _ _ _ _ ha (by cases r2 with | pv h => exact h) (by cases q2 with | pv h => exact h)
        unfold Op.eqFields
        rw [if_pos hn']
        simp only [Sem.run_bind, r1, q1, he, Result.andThen_ok]
        cases a with
        | true => simpa using eqF_ok hg hc hd hb
        | false => simp
      · cases h
    · cases h

theorem eqI_ok {g : TypeId → PV → PV → Option Bool} {d e n : Nat} (hg : ∀ t x y b v u, g t x y = some b → Rep S w x v → Rep S w y u → (Op.equalIn d t v u).run P w = .ok b w) {cs ds : List PV} {vs us : Array Value} (hc : PW (RepA (fun _ => none) S w) (cs.map .pv) vs.toList) (hd : PW (RepA (fun _ => none) S w) (ds.map .pv) us.toList) :
    ∀ {is : List Nat} {b : Bool}, eqI g P e n cs ds is = some b → (Op.eqItems d e n vs us is).run P w = .ok b w
  | [], b, h => by cases h; rfl
  | i :: is, b, h => by
    unfold eqI at h
    split at h
    · rename_i p _ _ q _ _ hp hq
      obtain ⟨v, r1, r2, _⟩ := partE_ok hc hp
      obtain ⟨u, q1, q2, _⟩ := partE_ok hd hq
      split at h
      · rename_i a b' ha hb
        cases h
        have he := hg _ _ _ _ _ _ ha (by cases r2 with | pv h => exact h) (by cases q2 with | pv h => exact h)
        unfold Op.eqItems
        simp only [Sem.run_bind, r1, q1, he, Result.andThen_ok]
        cases a with
        | true => simpa using eqI_ok hg hc hd hb
        | false => simp
      · cases h
    · cases h

theorem pw_pv {cs : List PV} {vs : List Value} (hl : cs.length = vs.length) (hr : ∀ (j : Nat) (q : PV) (v : Value), cs[j]? = some q → vs[j]? = some v → Rep S w q v) : PW (RepA μ S w) (cs.map .pv) vs :=
  ⟨by simpa using hl, fun j x v hx hv => by
    rw [List.getElem?_map, Option.map_eq_some_iff] at hx
    obtain ⟨q, hq, rfl⟩ := hx
    exact .pv (hr j q v hq hv)⟩

theorem eqA_ok : ∀ (n d : Nat) (t : TypeId) (x y : PV) (b : Bool) (v u : Value), eqA P n t x y = some b → Rep S w x v → Rep S w y u → (Op.equalIn (d + n) t v u).run P w = .ok b w
  | 0, _, _, _, _, _, _, _, h, _, _ => by simp [eqA] at h
  | n + 1, d, t, x, y, b, v, u, h, hx, hy => by
    unfold eqA at h
    split at h
    · rename_i cs ds
      split at h
      · rename_i fs ht hs
        cases hx with
        | agg hl hr =>
          cases hy with
          | agg hl' hr' =>
            rw [show d + (n + 1) = (d + n) + 1 from rfl, run_equalIn_struct w (d + n) t _ _ (by rw [fieldsOf_eq ht]; exact ht) hs, fieldsOf_eq ht]
            exact eqF_ok (fun t x y b v u h hx hy => eqA_ok n d t x y b v u h hx hy) (by simpa using pw_pv hl hr) (by simpa using pw_pv hl' hr') h
      · rename_i len el ht
        split at h
        · rename_i m hm
          obtain ⟨inf, hi, hsi⟩ : ∃ inf, P.info? el = some inf ∧ inf.size = m := by
            unfold sz at hm
            cases hq : P.info? el with
            | none => simp [hq] at hm
            | some i => exact ⟨i, rfl, by simpa [hq] using hm⟩
          have hcell : P.cellsOf el = m := by simp [Program.cellsOf, hi, hsi]
          cases hx with
          | agg hl hr =>
            cases hy with
            | agg hl' hr' =>
              rw [show d + (n + 1) = (d + n) + 1 from rfl, run_equalIn_array w (d + n) _ _ ht hi, hcell]
              exact eqI_ok (fun t x y b v u h hx hy => eqA_ok n d t x y b v u h hx hy) (by simpa using pw_pv hl hr) (by simpa using pw_pv hl' hr') h
        · cases h
      · cases h
    · split at h
      · rename_i k ht
        split at h
        · rename_i hk
          subst hk
          cases h; cases hx; cases hy
          exact run_equalIn_int w (d + n) t _ k _ _ ht
        · cases h
      · cases h
    · split at h
      · rename_i ht
        cases h; cases hx; cases hy
        exact run_equalIn_bool' w (d + n) t _ _ ht
      · cases h
    · split at h
      · rename_i ht
        cases h; cases hx; cases hy
        rw [show d + (n + 1) = (d + n) + 1 from rfl, run_equalIn_string w (d + n) t _ _ ht, beq_toListBytes]
      · cases h
    · cases h

theorem eqE_ok {op : BinOp} {t : TypeId} {cs ds : List PV} {x y : Operand} {v u : Value} {e : Eff} (hx : Rep S w (.agg cs) v) (hy : Rep S w (.agg ds) u) (h : eqE P op t cs ds = some e) :
    ∃ r, ((do eqGuard op t x y v u; binOp op t v u : Sem Value).run P w) = .ok r w ∧ RepA μ S w e.val r ∧ e.mem = [] := by
  unfold eqE at h
  split at h
  · rename_i ht hg
    split at h
    · rename_i b hb
      cases h
      have h1 := eqA_ok 6 9994 t _ _ b v u hb hx hy
      cases hx with
      | agg hl hr =>
        cases hy with
        | agg hl' hr' =>
          refine ⟨.bool b, ?_, .pv (.lit rfl), rfl⟩
          rw [Sem.run_bind, run_eqGuard_agg w _ t x y _ _ hg]
          simp only [Result.andThen_ok]
          rw [run_eql_struct, h1]
          rfl
    · rename_i b hb
      cases h
      have h1 := eqA_ok 6 9994 t _ _ b v u hb hx hy
      cases hx with
      | agg hl hr =>
        cases hy with
        | agg hl' hr' =>
          refine ⟨.bool (!b), ?_, .pv (.lit rfl), rfl⟩
          rw [Sem.run_bind, run_eqGuard_agg w _ t x y _ _ hg]
          simp only [Result.andThen_ok]
          rw [run_neq_struct, h1]
          rfl
    · cases h
  · cases h
end Go.Mir
