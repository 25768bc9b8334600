/- Addresses, parts, slices (lemmas; conditions: what they say). -/
import Derived.Test.YthcmkipbdgndoaaGreatDoorNx6
import Derived.Laws.BytesString
set_option linter.all false
set_option linter.unusedVariables false
set_option linter.unusedSimpArgs false
set_option linter.unnecessarySimpa false
namespace Go.Mir
open Go Go.RowKit
variable {P : Program} {μ μ' : Nat → Option KS} {S S' : Nat → Prop} {w w' : World} {σ σ' : Store}

theorem asI_int {x : AV} {v : Value} {i : Int} (hx : RepA μ S w x v) (hi : asI x = some i) : ∃ kd, v = .int kd i := by
  unfold asI at hi
  split at hi
  · cases hi
    cases hx with
    | pv hp => cases hp with | lit _ => exact ⟨_, rfl⟩
  · cases hi

theorem addrAdd_ok {n : Nat} {x y : AV} {v : Value} (hx : RepA μ S w x v) (h : addrAdd n x = some y) : ∃ b o, v = .pointer (some ⟨b, o, none⟩) ∧ RepA μ S w y (.pointer (some ⟨b, o + n, none⟩)) := by
  unfold addrAdd at h
  split at h
  · rename_i k off
    cases h
    cases hx with
    | bp hm =>
      cases e : μ k with
      | none => rw [e] at hm; exact hm.elim
      | some m =>
        rw [e] at hm
        cases m with
        | stale => obtain ⟨b, o, rfl⟩ := hm; exact ⟨b, o, rfl, .bp (by rw [e]; exact ⟨_, _, rfl⟩)⟩
        | box b => obtain rfl : v = _ := hm; exact ⟨b, off, rfl, .bp (by rw [e]; rfl)⟩
        | _ => exact hm.elim
  · rename_i k i off
    cases h
    cases hx with
    | rp hm =>
      cases e : μ k with
      | none => rw [e] at hm; exact hm.elim
      | some m =>
        rw [e] at hm
        cases m with
        | stale => obtain ⟨b, o, rfl⟩ := hm; exact ⟨b, o, rfl, .rp (by rw [e]; exact ⟨_, _, rfl⟩)⟩
        | row b c s => obtain rfl : v = _ := hm; exact ⟨b, i * s + off, rfl, .rp (by rw [e]; show _ = _; rw [Nat.add_assoc])⟩
        | _ => exact hm.elim
  · cases h
    cases hx with
    | gp => exact ⟨_, _, rfl, .gp⟩
  · cases h
    cases hx with
    | pv hp =>
      cases hp with
      | @ip _ _ b o f hS hc hr => exact ⟨b, o + _, rfl, by rw [Nat.add_assoc]; exact .pv (.ip f hS hc hr)⟩
  · cases h

theorem run_fieldAt {t : TypeId} {fs : Array Field} {f n : Nat} {fd : Field} {b o : Nat} (ht : P.underlying t = some (.struct fs)) (hf : fs[f]? = some fd) (hz : sz P fd.type = some (n + 1)) (w : World) :
    (Instr.fieldAt t (.pointer (some ⟨b, o, none⟩)) f).run P w = .ok (.pointer (some ⟨b, o + fd.offset, none⟩)) w := by
  simp [Instr.fieldAt, run_underlying ht, hf, Instr.sureAddr, fieldPlace, sz_run hz, add_at]

theorem partE_ok {t : TypeId} {cs : List AV} {vs : Array Value} {off : Nat} {e : Eff} (hp : PW (RepA μ S w) cs vs.toList) (h : partE P t cs off = some e) :
    ∃ v, (part t vs off).run P w = .ok v w ∧ RepA μ S w e.val v ∧ e.mem = [] := by
  unfold partE at h
  split at h
  · rename_i n h1 h2
    split at h
    · cases h
      have q := (hp.drop off).take n
      refine ⟨.agg (vs.extract off (off + n)), by simp [part, isAgg_run h1, sz_run h2], ?_, rfl⟩
      have := mkAgg_rep q.1 q.2
      have e : (vs.extract off (off + n)) = ((vs.toList.drop off).take n).toArray := by
        apply Array.toList_inj.1
        simp [List.extract_eq_take_drop]
      rw [e]
      exact this
    · cases h
  · rename_i n h1
    split at h
    · rename_i x hx
      cases h
      have hlt : off < vs.size := by have := (List.getElem?_eq_some_iff.1 hx).1; have := hp.1; simp at this; omega
      refine ⟨vs[off], ?_, hp.2 off x _ hx (by simp [hlt]), rfl⟩
      simp [part, isAgg_run h1, hlt]
    · cases h
  · cases h

theorem aggCells_ok {x : AV} {v : Value} {cs : List AV} (hx : RepA μ S w x v) (h : x.aggCells = some cs) : ∃ vs : Array Value, v = .agg vs ∧ PW (RepA μ S w) cs vs.toList := by
  unfold AV.aggCells at h
  split at h
  · cases h
    cases hx with
    | @agg _ vs hl hr => exact ⟨_, rfl, by simpa using ⟨hl, hr⟩⟩
  · cases h
    cases hx with
    | pv hp =>
      cases hp with
      | @agg cs vs hl hr =>
        refine ⟨_, rfl, by simpa using hl, fun j x v hx hv => ?_⟩
        rw [List.getElem?_map, Option.map_eq_some_iff] at hx
        obtain ⟨q, hq, rfl⟩ := hx
        exact .pv (hr j q v hq (by simpa using hv))
  · cases h

theorem fieldE_ok {t : TypeId} {x : AV} {v : Value} {cs : List AV} {fs : Array Field} {f : Nat} {fd : Field} {e : Eff} (hx : RepA μ S w x v) (hc : x.aggCells = some cs) (ht : P.underlying t = some (.struct fs)) (hf : fs[f]? = some fd) (h : partE P fd.type cs fd.offset = some e) :
    ∃ u, (Instr.field t v f).run P w = .ok u w ∧ RepA μ S w e.val u ∧ e.mem = [] := by
  obtain ⟨vs, rfl, hp⟩ := aggCells_ok hx hc
  obtain ⟨u, h1, h2, h3⟩ := partE_ok hp h
  exact ⟨u, by simp [Instr.field, run_underlying ht, hf, asAgg, h1], h2, h3⟩

theorem indexE_ok {t : TypeId} {x ix : AV} {v vi : Value} {e : Eff} (hx : RepA μ S w x v) (hi : RepA μ S w ix vi) (h : indexE P t x ix = some e) :
    ∃ u, (Instr.index t v vi).run P w = .ok u w ∧ RepA μ S w e.val u ∧ e.mem = [] := by
  unfold indexE at h
  split at h
  · rename_i n el i ht hai
    obtain ⟨kd, rfl⟩ := asI_int hi hai
    split at h
    · rename_i cs s hc hs
      obtain ⟨vs, rfl, hp⟩ := aggCells_ok hx hc
      split at h
      · rename_i hcond
        obtain ⟨u, h1, h2, h3⟩ := partE_ok hp h
        exact ⟨u, by simp [Instr.index, asIntOf, run_underlying ht, hcond.1, hcond.2, sz_run hs, h1], h2, h3⟩
      · cases h
    · cases h
  · rename_i i ht hai
    obtain ⟨kd, rfl⟩ := asI_int hi hai
    split at h
    · rename_i s
      cases hx with
      | pv hp =>
        cases hp with
        | lit _ =>
          split at h
          · rename_i h0
            split at h
            · rename_i b hb
              cases h
              exact ⟨_, by simp only [Instr.index, asIntOf, Sem.run_bind, Sem.run_pure, Result.andThen_ok, run_underlying ht, h0, if_true, hb], .pv (.lit rfl), rfl⟩
            · cases h
          · cases h
    · cases h
  · cases h

theorem indexAddrE_ok (hσ : StoRep μ S w σ) {t : TypeId} {x ix : AV} {v vi : Value} {e : Eff} (hx : RepA μ S w x v) (hi : RepA μ S w ix vi) (h : indexAddrE P t x ix σ = some e) :
    ∃ u, (Instr.indexAt t v vi).run P w = .ok u w ∧ RepA μ S w e.val u ∧ e.mem = [] := by
  unfold indexAddrE at h
  split at h
  · rename_i el i ht hai
    obtain ⟨kd, rfl⟩ := asI_int hi hai
    split at h
    · rename_i full es
      cases hx with
      | pv hp =>
        split at h
        · rename_i h0
          split at h
          · rename_i p hpe
            split at h
            · rename_i hsz
              cases h
              cases hp with
              | @sl _ _ a cap s f hn hc hf hs ha hr =>
                have hlt : i.toNat < es.length := (List.getElem?_eq_some_iff.1 hpe).1
                have hlt' : i < (es.length : Int) := by omega
                have es' : s = p.cells.length := (hs _ p hpe).symm
                by_cases hcl : p.cells = []
                · exact absurd (by rw [hcl]; rfl) (Nat.ne_of_gt hsz.2)
                · obtain ⟨q, hq⟩ : ∃ q, p.cells[0]? = some q := by
                    cases hpc : p.cells with
                    | nil => exact absurd hpc hcl
                    | cons q r => exact ⟨q, rfl⟩
                  obtain ⟨b, o, rfl, hSb, _⟩ := ha _ p 0 q hpe hq
                  refine ⟨.pointer (some ⟨b, o + i.toNat * s, none⟩), ?_, ?_, rfl⟩
                  · simp [Instr.indexAt, asIntOf, run_underlying ht, h0, hlt', sz_run hsz.1, add_at, es']
                  · have := Rep.ip (S := S) (w := w) (cs := p.cells) (off := 0) (b := b) (o := o + i.toNat * s) (fun j => f i.toNat j) hSb
                      (fun j q hq => by
                        obtain ⟨b', o', he, _, hcell⟩ := ha _ p j q hpe hq
                        cases he
                        rw [Nat.add_assoc]; exact hcell) (fun j q hq => hr _ p j q hpe hq)
                    exact .pv this
            · cases h
          · cases h
        · cases h
    · rename_i k off len own
      split at h
      · rename_i live e0 s es he
        split at h
        · rename_i hcond
          obtain ⟨h0, h1, hsz⟩ := hcond
          cases h
          cases hx with
          | ms hm =>
            rcases hσ.blk k _ he with ⟨g1, g2⟩ | ⟨b, cap, cur, hμ, _⟩
            · rw [g2] at hm
              obtain ⟨_, rfl, _⟩ := hm
              omega
            · rw [hμ] at hm
              obtain ⟨a, c, rfl, hlc, ha, _⟩ := hm
              have ha' := ha.resolve_left (by omega)
              subst ha'
              refine ⟨.pointer (some ⟨b, off * s + i.toNat * s, none⟩), by simp [Instr.indexAt, asIntOf, run_underlying ht, h0, h1, sz_run hsz, add_at], .rp ?_, rfl⟩
              rw [hμ]
              show _ = _
              rw [Nat.add_mul]; rfl
        · cases h
      · cases h
    · cases h
  · rename_i n el i ht hai
    obtain ⟨kd, rfl⟩ := asI_int hi hai
    split at h
    · rename_i s hs
      split at h
      · rename_i hcond
        split at h
        · rename_i y hy
          cases h
          obtain ⟨b, o, rfl, hr⟩ := addrAdd_ok hx hy
          exact ⟨_, by simp [Instr.indexAt, asIntOf, run_underlying ht, hcond.1, hcond.2, sz_run hs, add_at, Instr.sureAddr], hr, rfl⟩
        · cases h
      · cases h
    · cases h
  · cases h

theorem arrAddrE_ok (hσ : StoRep μ S w σ) {t : TypeId} {x ix : AV} {v vi : Value} {e : Eff} (hx : RepA μ S w x v) (hi : RepA μ S w ix vi) (h : arrAddrE P t x ix σ = some e) :
    ∃ u, (Instr.indexAt t v vi).run P w = .ok u w ∧ RepA μ S w e.val u ∧ e.mem = [] := by
  unfold arrAddrE at h
  split at h
  · rename_i n el i ht hai
    obtain ⟨kd, rfl⟩ := asI_int hi hai
    split at h
    · rename_i k
      split at h
      · rename_i live e0 s es he
        split at h
        · rename_i hcond
          obtain ⟨h0, h1, hsz⟩ := hcond
          cases h
          cases hx with
          | rp hm =>
            rcases hσ.blk k _ he with ⟨g1, g2⟩ | ⟨b, cap, cur, hμ, _⟩
            · rw [g2] at hm; exact hm.elim
            · rw [hμ] at hm
              obtain rfl : v = _ := hm
              refine ⟨.pointer (some ⟨b, 0 * s + 0 + i.toNat * s, none⟩), by simp [Instr.indexAt, asIntOf, run_underlying ht, h0, h1, sz_run hsz, add_at, Instr.sureAddr], .rp ?_, rfl⟩
              rw [hμ]
              show _ = _
              simp
        · cases h
      · cases h
    · cases h
  · cases h
theorem indexAddrZ_ok (hσ : StoRep μ S w σ) {z : Bool} {t : TypeId} {x ix : AV} {v vi : Value} {e : Eff} (hx : RepA μ S w x v) (hi : RepA μ S w ix vi) (h : indexAddrZ P z t x ix σ = some e) :
    ∃ u, (Instr.indexAt t v vi).run P w = .ok u w ∧ RepA μ S w e.val u ∧ e.mem = [] := by
  cases z with
  | false => exact indexAddrE_ok hσ hx hi h
  | true => exact arrAddrE_ok hσ hx hi h
end Go.Mir
