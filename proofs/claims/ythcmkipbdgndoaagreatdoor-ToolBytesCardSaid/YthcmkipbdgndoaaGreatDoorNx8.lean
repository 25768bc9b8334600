/- Slices of slices, maps, lengths, append, conversions (lemmas; conditions: what they say). -/
import Derived.Test.YthcmkipbdgndoaaGreatDoorNx7
set_option linter.all false
set_option linter.unusedVariables false
set_option linter.unusedSimpArgs false
set_option linter.unnecessarySimpa false
namespace Go.Mir
open Go Go.RowKit
variable {P : Program} {μ μ' : Nat → Option KS} {S S' : Nat → Prop} {w w' : World} {σ σ' : Store}

inductive OptRep (μ : Nat → Option KS) (S : Nat → Prop) (w : World) : Option AV → Option Value → Prop
  | none : OptRep μ S w none none
  | some {x : AV} {v : Value} (h : RepA μ S w x v) : OptRep μ S w (some x) (some v)

theorem run_sliceBound {k : IntKind} {i : Int} {y : Nat} {c : BoundsCode} (h0 : 0 ≤ i) (h1 : i.toNat ≤ y) (w : World) : (Instr.sliceBound (.int k i) y c).run P w = .ok i.toNat w := by
  simp [Instr.sliceBound, asIntOf, show 0 ≤ i ∧ i ≤ (y : Int) by omega]

theorem bndE_some {x : AV} {v : Value} {d n : Nat} (hx : RepA μ S w x v) (h : bndE d (some x) = some n) : ∃ k i, v = .int k i ∧ 0 ≤ i ∧ n = i.toNat := by
  unfold bndE at h
  simp only at h
  split at h
  · rename_i i hi
    obtain ⟨k, rfl⟩ := asI_int hx hi
    split at h
    · cases h; exact ⟨k, i, rfl, by assumption, rfl⟩
    · cases h
  · cases h

theorem run_bounds {isS : Bool} {len cap l h : Nat} {lo hi : Option AV} {vlo vhi : Option Value} (hlo : OptRep μ S w lo vlo) (hhi : OptRep μ S w hi vhi) (h1 : bndE 0 lo = some l) (h2 : bndE len hi = some h) (hle : l ≤ h) (hlen : h ≤ len) (hcap : len ≤ cap) :
    (Instr.sliceBounds isS len cap vlo vhi none).run P w = .ok (l, h, cap) w := by
  cases hhi with
  | none =>
    simp only [bndE, Option.some.injEq] at h2; subst h2
    cases hlo with
    | none => simp only [bndE, Option.some.injEq] at h1; subst h1; simp [Instr.sliceBounds]
    | some hx => obtain ⟨k, i, rfl, h0, rfl⟩ := bndE_some hx h1; simp [Instr.sliceBounds, run_sliceBound h0 hle]
  | some hy =>
    obtain ⟨k', i', rfl, h0', rfl⟩ := bndE_some hy h2
    have hb := fun c => run_sliceBound (P := P) (k := k') (i := i') (y := cap) (c := c) h0' (by omega) w
    cases hlo with
    | none => simp only [bndE, Option.some.injEq] at h1; subst h1; simp [Instr.sliceBounds, hb]
    | some hx => obtain ⟨k, i, rfl, h0, rfl⟩ := bndE_some hx h1; simp [Instr.sliceBounds, hb, run_sliceBound h0 hle]

theorem run_bounds3 {isS : Bool} {len cap l h m : Nat} {lo : Option AV} {hi mx : AV} {vlo : Option Value} {vhi vmx : Value} (hlo : OptRep μ S w lo vlo) (hhi : RepA μ S w hi vhi) (hmx : RepA μ S w mx vmx) (h1 : bndE 0 lo = some l) (h2 : bndE len (some hi) = some h) (h3 : bndE 0 (some mx) = some m) (hle : l ≤ h) (hm : h ≤ m) (hcap : m ≤ cap) :
    (Instr.sliceBounds isS len cap vlo (some vhi) (some vmx)).run P w = .ok (l, h, m) w := by
  obtain ⟨k1, i1, rfl, p1, rfl⟩ := bndE_some hhi h2
  obtain ⟨k2, i2, rfl, p2, rfl⟩ := bndE_some hmx h3
  have hb := fun c => run_sliceBound (P := P) (k := k1) (i := i1) (y := i2.toNat) (c := c) p1 hm w
  have hb2 := fun c => run_sliceBound (P := P) (k := k2) (i := i2) (y := cap) (c := c) p2 hcap w
  cases hlo with
  | none => simp only [bndE, Option.some.injEq] at h1; subst h1; simp [Instr.sliceBounds, hb, hb2]
  | some hx => obtain ⟨k, i, rfl, h0, rfl⟩ := bndE_some hx h1; simp [Instr.sliceBounds, hb, hb2, run_sliceBound h0 hle]

theorem sliceS_ok {t : TypeId} {s : ByteArray} {lo hi mx : Option AV} {vlo vhi vmx : Option Value} {e : Eff} (ht : P.underlying t = some .string) (hlo : OptRep μ S w lo vlo) (hhi : OptRep μ S w hi vhi) (hmx : OptRep μ S w mx vmx) (h : sliceS s lo hi mx = some e) :
    ∃ u, (Instr.sliceAt t (.string s) vlo vhi vmx).run P w = .ok u w ∧ RepA μ S w e.val u ∧ e.mem = [] := by
  unfold sliceS at h
  split at h
  · rename_i l hh h1 h2
    split at h
    · rename_i hc
      cases h
      cases hmx with
      | none =>
        have hb := run_bounds (P := P) (isS := false) (cap := s.size) hlo hhi h1 h2 hc.1 hc.2 (Nat.le_refl _)
        exact ⟨_, by simp [Instr.sliceAt, Instr.slice, run_underlying ht, hb], .pv (.lit rfl), rfl⟩
    · cases h
  · cases h

/-- A piece of a slice that stands. -/
theorem rep_piece {full full' : Bool} {es : List PV} {a a' : Option Addr} {cap cap' n l k : Nat} (hr : Rep S w (.sl full es) (.slice a es.length cap)) (hn : l = 0 ∨ es.all (fun p => decide (p.cells.length = n)) = true) (hle : l + k ≤ es.length) (hc : k ≤ cap') (hf : full' = true → cap' = k)
    (ha : a' = if cap' = 0 then a else a.map (·.add (l * n))) : Rep S w (.sl full' ((es.drop l).take k)) (.slice a' k cap') := by
  cases hr with
  | sl s f hn0 hc0 hf0 hs hcell hr =>
    have lk : ((es.drop l).take k).length = k := by rw [List.length_take, List.length_drop]; omega
    have get : ∀ (i : Nat) (p : PV), ((es.drop l).take k)[i]? = some p → es[l + i]? = some p ∧ i < k := by
      intro i p hp
      rw [List.getElem?_take] at hp
      split at hp
      · rw [List.getElem?_drop] at hp; exact ⟨hp, by assumption⟩
      · cases hp
    have key := Rep.sl (S := S) (w := w) (full := full') (es := (es.drop l).take k) (a := a') (cap := cap') s (fun i j => f (l + i) j) (by omega) (by omega) (by rw [lk]; exact hf) (fun i p hp => hs _ p (get i p hp).1)
      (fun i p j q hp hq => by
        obtain ⟨hp', hi⟩ := get i p hp
        obtain ⟨b, o, rfl, hb, hcl⟩ := hcell _ p j q hp' hq
        have hcap : cap' ≠ 0 := by omega
        rw [if_neg hcap] at ha
        have es' : l * n = l * s := by
          rcases hn with rfl | hn
          · simp
          · have := List.all_eq_true.1 hn p (List.mem_of_getElem? hp')
            rw [← hs _ p hp']
            have e : p.cells.length = n := by simpa using this
            rw [e]
        refine ⟨b, o + l * s, by rw [ha, es']; simp [add_at], hb, ?_⟩
        have e : o + l * s + (i * s + j) = o + ((l + i) * s + j) := by rw [Nat.add_mul]; omega
        rw [e]; exact hcl)
      (fun i p j q hp hq => hr _ p j q (get i p hp).1 hq)
    rw [lk] at key
    exact key

theorem sliceE_ok (hσ : StoRep μ S w σ) {t el : TypeId} {n : Nat} {x : AV} {v : Value} {lo hi mx : Option AV} {vlo vhi vmx : Option Value} {e : Eff} (ht : P.underlying t = some (.slice el)) (hn : sz P el = some n) (hx : RepA μ S w x v) (hlo : OptRep μ S w lo vlo) (hhi : OptRep μ S w hi vhi) (hmx : OptRep μ S w mx vmx) (h : sliceE n σ x lo hi mx = some e) :
    ∃ u, (Instr.sliceAt t v vlo vhi vmx).run P w = .ok u w ∧ RepA μ S w e.val u ∧ e.mem = [] := by
  unfold sliceE at h
  split at h
  · rename_i full es
    cases hx with
    | pv hp =>
      have hp0 := hp
      cases hp with
      | @sl _ _ a cap s f hn0 hc hf hs ha hr =>
        split at h
        · rename_i l hh h1 h2
          split at h
          · rename_i hn0
            split at h
            · split at h
              · rename_i hcond
                cases h
                cases hmx with
                | none =>
                  have hb := run_bounds (P := P) (isS := true) (cap := cap) hlo hhi h1 h2 hcond.1 hcond.2 hc
                  refine ⟨.slice (if cap = l then a else a.map (·.add (l * n))) (hh - l) (cap - l), by simp [Instr.sliceAt, Instr.slice, run_underlying ht, hb, sz_run hn], .pv ?_, rfl⟩
                  refine rep_piece hp0 hn0 (by omega) (by omega) (fun hf' => ?_) ?_
                  · simp only [Bool.and_eq_true, decide_eq_true_eq] at hf'
                    have := hf hf'.1
                    omega
                  · by_cases c : cap = l
                    · rw [if_pos c, if_pos (by omega)]
                    · rw [if_neg c, if_neg (by omega)]
              · cases h
            · rename_i m
              split at h
              · rename_i m' h0 h3
                split at h
                · rename_i hcond
                  cases h
                  cases hmx with
                  | some hmx =>
                    cases hhi with
                    | some hhi =>
                      have hb := run_bounds3 (P := P) (isS := true) (cap := cap) hlo hhi hmx h1 h2 h3 hcond.1 hcond.2.1 (by omega)
                      refine ⟨.slice (if m' = l then a else a.map (·.add (l * n))) (hh - l) (m' - l), by simp [Instr.sliceAt, Instr.slice, run_underlying ht, hb, sz_run hn], .pv ?_, rfl⟩
                      refine rep_piece hp0 hn0 (by omega) (by omega) (fun hf' => ?_) ?_
                      · simp only [decide_eq_true_eq] at hf'; omega
                      · by_cases c : m' = l
                        · rw [if_pos c, if_pos (by omega)]
                        · rw [if_neg c, if_neg (by omega)]
                · cases h
              · cases h
          · cases h
        · cases h
  · rename_i k off len own
    split at h
    · rename_i live e0 s es he
      split at h
      · rename_i l hh h1 h2
        split at h
        · rename_i hsn
          subst hsn
          cases hx with
          | ms hm =>
            rcases hσ.blk k _ he with ⟨g1, g2⟩ | ⟨b, cap0, cur, hμ, _⟩
            · rw [g2] at hm
              obtain ⟨rfl, rfl, a, rfl⟩ := hm
              split at h
              · split at h
                · rename_i hcond
                  cases h
                  cases hmx with
                  | none =>
                    have hb := run_bounds (P := P) (isS := true) (cap := 0) hlo hhi h1 h2 hcond.1 hcond.2 (Nat.le_refl _)
                    have l0 : l = 0 := by omega
                    have h0' : hh = 0 := by omega
                    subst l0; subst h0'
                    exact ⟨.slice a 0 0, by simp [Instr.sliceAt, Instr.slice, run_underlying ht, hb, sz_run hn], .ms (by rw [g2]; exact ⟨rfl, rfl, a, rfl⟩), rfl⟩
                · cases h
              · split at h
                · rename_i m' h0 h3
                  split at h
                  · rename_i hcond
                    cases h
                    cases hmx with
                    | some hmx =>
                      cases hhi with
                      | some hhi =>
                        have hb := run_bounds3 (P := P) (isS := true) (cap := 0) hlo hhi hmx h1 h2 h3 hcond.1 hcond.2.1 (by omega)
                        have l0 : l = 0 := by omega
                        have h0' : hh = 0 := by omega
                        have m0 : m' = 0 := by omega
                        subst l0; subst h0'; subst m0
                        exact ⟨.slice a 0 0, by simp [Instr.sliceAt, Instr.slice, run_underlying ht, hb, sz_run hn], .ms (by rw [g2]; exact ⟨rfl, rfl, a, rfl⟩), rfl⟩
                  · cases h
                · cases h
            · rw [hμ] at hm
              obtain ⟨a, c, rfl, hlc, ha, ho⟩ := hm
              have addr : ∀ c', (c' = 0 ∨ c' ≠ 0) → c ≠ 0 → (if c' = 0 then a else a.map (·.add (l * s))) = if c' = 0 then a else some ⟨b, (off + l) * s, none⟩ := by
                intro c' _ hc0
                split
                · rfl
                · rw [ha.resolve_left hc0, Nat.add_mul]; simp [add_at]
              split at h
              · split at h
                · rename_i hcond
                  cases h
                  cases hmx with
                  | none =>
                    have hb := run_bounds (P := P) (isS := true) (cap := c) hlo hhi h1 h2 hcond.1 hcond.2 hlc
                    refine ⟨.slice (if c = l then a else a.map (·.add (l * s))) (hh - l) (c - l), by simp [Instr.sliceAt, Instr.slice, run_underlying ht, hb, sz_run hn], .ms ?_, rfl⟩
                    rw [hμ]
                    refine ⟨_, _, rfl, by omega, ?_, fun ho' => by cases ho'⟩
                    by_cases c0 : c = l
                    · exact .inl (by omega)
                    · right
                      rw [if_neg c0, ha.resolve_left (by omega), Nat.add_mul]; simp [add_at]
                · cases h
              · split at h
                · rename_i m' h0 h3
                  split at h
                  · rename_i hcond
                    cases h
                    cases hmx with
                    | some hmx =>
                      cases hhi with
                      | some hhi =>
                        have hb := run_bounds3 (P := P) (isS := true) (cap := c) hlo hhi hmx h1 h2 h3 hcond.1 hcond.2.1 (by omega)
                        refine ⟨.slice (if m' = l then a else a.map (·.add (l * s))) (hh - l) (m' - l), by simp [Instr.sliceAt, Instr.slice, run_underlying ht, hb, sz_run hn], .ms ?_, rfl⟩
                        rw [hμ]
                        refine ⟨_, _, rfl, by omega, ?_, fun ho' => by cases ho'⟩
                        by_cases c0 : m' = l
                        · exact .inl (by omega)
                        · right
                          rw [if_neg c0, ha.resolve_left (by omega), Nat.add_mul]; simp [add_at]
                  · cases h
                · cases h
        · cases h
      · cases h
    · cases h
  · cases h

theorem capE_ok {t ty : TypeId} {x : AV} {v : Value} {e : Eff} (hx : RepA μ S w x v) (h : capE P t x = some e) :
    ∃ u, (Builtin.cap_ #[t] ty #[v]).run P w = .ok u w ∧ RepA μ S w e.val u ∧ e.mem = [] := by
  unfold capE at h
  split at h
  · rename_i ht
    cases h
    cases hx with
    | pv hp =>
      cases hp with
      | sl s f hn hc hf =>
        obtain rfl := hf rfl
        exact ⟨_, by simp [Builtin.cap_, run_underlying ht]; rfl, .pv (.lit rfl), rfl⟩
  · cases h
theorem lenE_ok (hσ : StoRep μ S w σ) {t ty : TypeId} {x : AV} {v : Value} {e : Eff} (hx : RepA μ S w x v) (h : lenE P t x σ = some e) :
    ∃ u, (Builtin.len_ #[t] ty #[v]).run P w = .ok u w ∧ RepA μ S w e.val u ∧ e.mem = [] := by
  unfold lenE at h
  split at h
  · rename_i ht
    cases h
    cases hx with
    | pv hp => cases hp with | sl => exact ⟨_, by simp [Builtin.len_, run_underlying ht]; rfl, .pv (.lit rfl), rfl⟩
  · rename_i ht
    cases h
    cases hx with
    | ms hm =>
      cases hk : μ _ with
      | none => rw [hk] at hm; exact hm.elim
      | some m =>
        rw [hk] at hm
        cases m with
        | stale => obtain ⟨a, c, rfl, _⟩ := hm; exact ⟨_, by simp [Builtin.len_, run_underlying ht]; rfl, .pv (.lit rfl), rfl⟩
        | nil => obtain ⟨_, rfl, a, rfl⟩ := hm; exact ⟨_, by simp [Builtin.len_, run_underlying ht]; rfl, .pv (.lit rfl), rfl⟩
        | row => obtain ⟨a, c, rfl, _⟩ := hm; exact ⟨_, by simp [Builtin.len_, run_underlying ht]; rfl, .pv (.lit rfl), rfl⟩
        | _ => exact hm.elim
  · rename_i ht
    cases h
    cases hx with
    | pv hp => cases hp with | lit => exact ⟨_, by simp [Builtin.len_, run_underlying ht]; rfl, .pv (.lit rfl), rfl⟩
  · rename_i ht
    cases h
    cases hx with
    | pv hp =>
      cases hp with
      | @map es b ents clk hS hb hl hk hr =>
        refine ⟨.int .i64 ents.size, ?_, by rw [← hl]; exact .pv (.lit rfl), rfl⟩
        simp [Builtin.len_, run_underlying ht, getObj, Sem.run, hb, goInt]
  · rename_i k ht
    split at h
    · rename_i live es he
      cases h
      obtain ⟨b, ents, clk, hμ, hl, hh, hsz, hc⟩ := hσ.blk k _ he
      cases hx with
      | mm hm =>
        rw [hμ] at hm
        obtain rfl : v = _ := hm
        refine ⟨.int .i64 ents.size, ?_, by rw [← hsz]; exact .pv (.lit rfl), rfl⟩
        simp [Builtin.len_, run_underlying ht, getObj, Sem.run, hh, goInt]
    · cases h
  · cases h
theorem sliceArr_ok (hσ : StoRep μ S w σ) {t el : TypeId} {n : Nat} {x : AV} {v : Value} {e : Eff} (ht : P.underlying t = some (.array n el)) (hx : RepA μ S w x v) (h : sliceArr P n el x σ = some e) :
    ∃ u, (Instr.sliceAt t v none none none).run P w = .ok u w ∧ RepA μ S w e.val u ∧ e.mem = [] := by
  unfold sliceArr at h
  split at h
  · rename_i k s hsz
    split at h
    · rename_i live e0 s' es he
      split at h
      · rename_i hs
        subst hs
        cases h
        cases hx with
        | rp hm =>
          rcases hσ.blk k _ he with ⟨g1, g2⟩ | ⟨b, cap, cur, hμ, _⟩
          · rw [g2] at hm; exact hm.elim
          · rw [hμ] at hm
            obtain rfl : v = _ := hm
            have hb : (Instr.sliceBounds false n n none none none).run P w = .ok (0, n, n) w := by simp [Instr.sliceBounds]
            refine ⟨.slice (some (if n = 0 then ⟨b, 0 * s' + 0, none⟩ else Addr.add ⟨b, 0 * s' + 0, none⟩ (0 * s'))) (n - 0) (n - 0), by simp [Instr.sliceAt, run_underlying ht, Instr.sureAddr, hb, sz_run hsz], .ms ?_, rfl⟩
            rw [hμ]
            refine ⟨_, _, rfl, Nat.le_refl _, ?_, fun h => by cases h⟩
            right
            split <;> simp [add_at]
      · cases h
    · cases h
  · cases h
end Go.Mir
