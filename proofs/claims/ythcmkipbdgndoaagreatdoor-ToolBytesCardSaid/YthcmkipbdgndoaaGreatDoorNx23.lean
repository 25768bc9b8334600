/- From what is shown of a function's code to its contract; words for what is shown (lemmas; conditions: what they say). -/
import Derived.Test.YthcmkipbdgndoaaGreatDoorNx27
set_option linter.all false
set_option linter.unusedVariables false
set_option linter.unusedSimpArgs false
set_option linter.unnecessarySimpa false
namespace Go.Mir
open Go Go.RowKit
variable {P : Program} {μ μ' : Nat → Option KS} {S S' : Nat → Prop} {w w' : World} {σ σ' : Store}
variable [Globs P]

theorem lk_globs {k : Nat} {b : Blk} : ∀ (l : List (Nat × List PV)), lk (l.map fun x => (gk x.1, Blk.gl x.1 x.2)) k = some b → ∃ x ∈ l, b = .gl x.1 x.2
  | [], h => by simp [lk_nil] at h
  | y :: r, h => by
    rw [List.map_cons, lk_cons] at h
    split at h
    · cases h; exact ⟨y, by simp, rfl⟩
    · obtain ⟨x, hx, e⟩ := lk_globs r h
      exact ⟨x, List.mem_cons_of_mem _ hx, e⟩
/-- The package variables' blocks. -/
noncomputable def globμ (P : Program) [Globs P] (k : Nat) : Option KS := match lk (globS P) k with
  | some _ => some .stale
  | none => none
theorem globμ_owns {k b : Nat} : ¬ owns (globμ P k) b := by
  unfold globμ; split <;> exact fun h => h
theorem globS_rep (hgl : GlobOk P S w) (hS : ∀ b, S b → b < w.heap.size) : StoRep (globμ P) S w (globS P) := by
  refine ⟨fun k b h => ?_, fun k h => by unfold globμ; rw [h], fun _ _ _ h => (globμ_owns h).elim, fun _ _ h => (globμ_owns h).elim, hS⟩
  obtain ⟨x, hx, rfl⟩ := lk_globs _ h
  exact ⟨by unfold globμ; rw [h], hgl x hx⟩

noncomputable def endX (P : Program) (rs : List ResultVar) (Φ : List RV → Prop) (s : St) : Prop := match results? P s.env s.sto rs with
  | some xs => match finRV s.sto xs with
    | some (rv, _) => Φ rv
    | none => False
  | none => False

/-- A demand at a function's end. -/
noncomputable def liftE (Φ : St → Prop) : Jmp → St → Prop
  | .fin, s => Φ s
  | .ret, s => Φ s
  | _, _ => False
theorem ctP_of {g : Nat} {fn : Func} {c : Code} {ps : List PV} {Φ : List RV → Prop} (n : Nat) (ans : List (Nat × Q)) (hmix : P.follows .mixedOrders = true) (hf : P.funcs[g]? = some fn)
    (hb : fn.body = some c) (hx : okFn fn ps.length = true)
    (h : runX P n ⟨false, [], [], liftE (endX P fn.results.toList Φ)⟩ ans 0 [.code c] ⟨envOf 0 (ps.map .pv), globS P, 0, fn.ntmps⟩) : CtP P g ps Φ := by
  obtain ⟨_, _, h3⟩ := okFn_spec hx hb
  intro S w vs hS hgl ha
  have hσ := globS_rep hgl hS
  have ha' : PW (RepA (globμ P) S w) (ps.map .pv) vs := ⟨by simpa using ha.1, fun j x v hx hv => by
    rw [List.getElem?_map, Option.map_eq_some_iff] at hx
    obtain ⟨p, hp, rfl⟩ := hx
    exact .pv (ha.2 j p v hp hv)⟩
  have hs := runX_ok n _ ans 0 _ _ h hmix (fun x hx => by simp at hx; subst hx; exact h3) trivial rfl
  obtain ⟨k1, k2⟩ := calls_of_sat (R := fun e w' => ∃ S' rs us bs, Φ rs ∧ e = .returned (resVal us) ∧ RVs S' w' rs us bs ∧ Grown S w S' w' ∧ ∀ b ∈ bs, ¬ S' b ∧ w.heap.size ≤ b ∧ b < w'.heap.size) hf hb (by rw [List.length_map]; exact hx) hs hσ ha' (CxOk.nil hgl)
    (fun j r a' μ1 S1 w' hj hE hs1 he1 hx1 => by
      have hr : endX P fn.results.toList Φ r := by rcases hj with rfl | rfl <;> exact hE
      unfold endX at hr
      split at hr
      · rename_i xs hxs
        split at hr
        · rename_i rv σ1 hrv
          obtain ⟨us, hru, hp⟩ := results_ok (P := P) (fn := fn) hs1 he1 hxs
          obtain ⟨μ2, S2, bs, g1, g2, g3, g4⟩ := finRV_ok hs1 hp hrv
          have hx2 := hx1.trans (g2.toB _)
          refine ⟨_, hru, S2, rv, us, bs, hr, rfl, g3, ⟨hx2.st, fun b hb => ?_, g1.slt, fun b hb => hx2.frame b hb (fun _ h => globμ_owns h), hx2.size, hx2.os, hx2.tape, hx2.output⟩, fun b hb => ?_⟩
          · rcases hx2.st' b hb with h | ⟨j, h⟩ | h
            · exact .inl h
            · exact (globμ_owns h).elim
            · exact .inr h
          · obtain ⟨q1, q2, ⟨j, q3⟩, q4⟩ := g4 b hb
            refine ⟨q1, ?_, q4⟩
            rcases hx1.own' j b q3 with ⟨_, h⟩ | h
            · exact (globμ_owns h).elim
            · exact h
        · exact hr.elim
      · exact hr.elim)
    (fun j r h1 h2 hE => by cases j <;> first | exact h1 rfl | exact h2 rfl | exact hE)
  exact ⟨callsIn_wideR.1 k1, k2⟩

theorem ctP_by {g : Nat} {fn : Func} {c : Code} {ps : List PV} {Φ : List RV → Prop} {X : Prop} (h : X) (n : Nat) (ans : List (Nat × Q)) (hmix : P.follows .mixedOrders = true) (hf : P.funcs[g]? = some fn)
    (hb : fn.body = some c) (hx : okFn fn ps.length = true)
    (hX : X = runX P n ⟨false, [], [], liftE (endX P fn.results.toList Φ)⟩ ans 0 [.code c] ⟨envOf 0 (ps.map .pv), globS P, 0, fn.ntmps⟩) : CtP P g ps Φ := ctP_of n ans hmix hf hb hx (hX ▸ h)

/-! ### Functions that boxes are lent to -/
noncomputable def BA.av : BA → AV
  | .p x => .pv x
  | .b i => .bp i 0
noncomputable def boxesFrom : Nat → List (List PV) → Store
  | _, [] => []
  | n, c :: r => (n, .box true (c.map .pv)) :: boxesFrom (n + 1) r
theorem lk_boxesFrom : ∀ (bs : List (List PV)) (n k : Nat), lk (boxesFrom n bs) k = if n ≤ k then (bs[k - n]?).map (fun c => Blk.box true (c.map .pv)) else none
  | [], n, k => by simp [boxesFrom, lk_nil]
  | c :: r, n, k => by
    rw [boxesFrom, lk_cons, lk_boxesFrom r (n + 1) k]
    by_cases h : n = k
    · subst h; simp
    · rw [if_neg h]
      by_cases h2 : n ≤ k
      · rw [if_pos h2, if_pos (by omega)]
        have : k - n = (k - (n + 1)) + 1 := by omega
        rw [this, List.getElem?_cons_succ]
      · rw [if_neg h2, if_neg (by omega)]
noncomputable def boxEnd (σ : Store) : Nat → Nat → Option (List (List PV) × List Nat)
  | _, 0 => some ([], [])
  | i, m + 1 => match lk σ i with
    | some (.box true cs) => match mapR (resolve σ deep) cs, boxEnd σ (i + 1) m with
      | some (ps, ks), some (pss, ks') => some (ps :: pss, ks ++ ks')
      | _, _ => none
    | _ => none
theorem boxEnd_spec (hσ : StoRep μ S w σ) : ∀ {m i : Nat} {cs : List (List PV)} {ks : List Nat}, boxEnd σ i m = some (cs, ks) → cs.length = m ∧ ∀ {K : List Nat}, (∀ k ∈ ks, k ∈ K) → ∀ (j : Nat) (c : List PV), cs[j]? = some c → ∃ b, μ (i + j) = some (.box b) ∧ ¬ S b ∧ BoxAt (frozenBy μ S K) w b c
  | 0, i, cs, ks, h => by cases h; exact ⟨rfl, fun _ j c hc => by simp at hc⟩
  | m + 1, i, cs, ks, h => by
    unfold boxEnd at h
    split at h
    · rename_i xs hlk
      split at h
      · rename_i ps ks1 pss ks' hp hr
        cases h
        obtain ⟨h1, h2⟩ := boxEnd_spec hσ hr
        obtain ⟨b, cur, e0, m1, m2, m3, m4, m5⟩ := hσ.blk i _ hlk
        obtain ⟨g1, g2⟩ := mapR_spec hp
        refine ⟨by simp [h1], fun {K} hK j c hc => ?_⟩
        cases j with
        | zero =>
          simp at hc
          subst hc
          refine ⟨b, m1, fun h => by simpa using m2.1 h, cur, e0, m3, by rw [m4, g1], fun j x v hx hv => ?_⟩
          have hj : j < xs.length := by rw [g1]; exact (List.getElem?_eq_some_iff.1 hx).1
          have hy := List.getElem?_eq_getElem hj
          obtain ⟨l, q1, q2⟩ := g2 j _ x hy hx
          exact resolve_sound hσ (fun b hb => .inl hb) deep _ v x l (m5 j _ v hy hv) q1 fun k' hk b hb => .inr ⟨k', hK k' (by simp [q2 k' hk]), hb⟩
        | succ j =>
          obtain ⟨b', q⟩ := h2 (K := K) (fun k hk => hK k (by simp [hk])) j c (by simpa using hc)
          exact ⟨b', by rw [show i + (j + 1) = i + 1 + j by omega]; exact q⟩
      · cases h
    · cases h
noncomputable def endB (P : Program) (n : Nat) (rs : List ResultVar) (Φ : List RV → List (List PV) → Prop) (s : St) : Prop := match results? P s.env s.sto rs with
  | some xs => match finRV s.sto xs with
    | some (rv, σ) => match boxEnd σ 0 n with
      | some (cs, ks) => if ks.all (fun k => !(Nat.blt k n)) = true then Φ rv cs else False
      | none => False
    | none => False
  | none => False

theorem ctB_of {g : Nat} {fn : Func} {c : Code} {as : List BA} {bs : List (List PV)} {Φ : List RV → List (List PV) → Prop} (n : Nat) (ans : List (Nat × Q)) (hmix : P.follows .mixedOrders = true) (hf : P.funcs[g]? = some fn)
    (hb : fn.body = some c) (hx : okFn fn as.length = true)
    (h : runX P n ⟨false, List.range bs.length, [], liftE (endB P bs.length fn.results.toList Φ)⟩ ans 0 [.code c] ⟨envOf 0 (as.map BA.av), boxesFrom 0 bs, 0, fn.ntmps⟩) : CtB P g as bs Φ := by
  obtain ⟨_, _, h3⟩ := okFn_spec hx hb
  intro S w vs bl hS hgl hbl hblS hnd hbox ha
  let μ0 : Nat → Option KS := fun k => (bl[k]?).map .box
  have own0 : ∀ k b, owns (μ0 k) b → bl[k]? = some b := fun k b h => by
    cases hk : bl[k]? with
    | none => simp [μ0, hk, owns] at h
    | some b' => simp [μ0, hk, owns] at h; rw [h]
  have hσ : StoRep μ0 S w (boxesFrom 0 bs) := by
    refine ⟨fun k b hkb => ?_, fun k hk => ?_, fun k k' b h h' => ?_, fun k b h => ?_, hS⟩
    · rw [lk_boxesFrom, if_pos (Nat.zero_le _), Nat.sub_zero, Option.map_eq_some_iff] at hkb
      obtain ⟨c, hc, rfl⟩ := hkb
      have hk : k < bl.length := by rw [hbl]; exact (List.getElem?_eq_some_iff.1 hc).1
      have hbk := List.getElem?_eq_getElem hk
      obtain ⟨cur, e, k1, k2, k3⟩ := hbox k _ c hbk hc
      refine ⟨bl[k], cur, e, by simp [μ0, hbk], ⟨fun h => absurd h (hblS _ (List.getElem_mem hk)).1, fun h => by cases h⟩, k1, by simpa using k2, fun j x v hx hv => ?_⟩
      rw [List.getElem?_map, Option.map_eq_some_iff] at hx
      obtain ⟨p, hp, rfl⟩ := hx
      exact .pv (k3 j p v hp hv)
    · rw [lk_boxesFrom, if_pos (Nat.zero_le _), Nat.sub_zero, Option.map_eq_none_iff, List.getElem?_eq_none_iff] at hk
      have : bl[k]? = none := List.getElem?_eq_none_iff.2 (by omega)
      simp [μ0, this]
    · have e1 := own0 k b h
      have e2 := own0 k' b h'
      obtain ⟨i1, q1⟩ := List.getElem?_eq_some_iff.1 e1
      obtain ⟨i2, q2⟩ := List.getElem?_eq_some_iff.1 e2
      exact (List.getElem_inj hnd).1 (q1.trans q2.symm)
    · exact (hblS b (List.mem_of_getElem? (own0 k b h))).2
  have ha' : PW (RepA μ0 S w) (as.map BA.av) vs := ⟨by simpa using ha.1, fun j x v hx hv => by
    rw [List.getElem?_map, Option.map_eq_some_iff] at hx
    obtain ⟨p, hp, rfl⟩ := hx
    have := ha.2 j p v hp hv
    cases p with
    | p x => exact .pv this
    | b i =>
      obtain ⟨b, hb, rfl⟩ := this
      exact .bp (by simp [μ0, hb, BpRep])⟩
  have hs := runX_ok n _ ans 0 _ _ h hmix (fun x hx => by simp at hx; subst hx; exact h3) trivial rfl
  obtain ⟨k1, k2⟩ := calls_of_sat (R := fun e w' => ∃ S' rs us nb cs', Φ rs cs' ∧ e = .returned (resVal us) ∧ RVs S' w' rs us nb ∧ GrownB bl S w S' w' ∧ (∀ b ∈ nb, ¬ S' b ∧ w.heap.size ≤ b ∧ b < w'.heap.size) ∧ cs'.length = bs.length ∧ (∀ (i b : Nat) (cs : List PV), bl[i]? = some b → cs'[i]? = some cs → BoxAt S' w' b cs)) hf hb (by rw [List.length_map]; exact hx) hs hσ ha' (CxOk.nil hgl)
    (fun j r a' μ1 S1 w' hj hE hs1 he1 hx1 => by
    have hr : endB P bs.length fn.results.toList Φ r := by rcases hj with rfl | rfl <;> exact hE
    unfold endB at hr
    split at hr
    · rename_i xs hxs
      split at hr
      · rename_i rv σ1 hrv
        split at hr
        · rename_i cs ks hcs
          split at hr
          · rename_i hks
            obtain ⟨us, hru, hp⟩ := results_ok (P := P) (fn := fn) hs1 he1 hxs
            obtain ⟨μ2, S2, nb, g1, g2, g3, g4⟩ := finRV_ok hs1 hp hrv
            have hx2 := hx1.trans (g2.toB _)
            obtain ⟨b1, b2⟩ := boxEnd_spec g1 hcs
            have hge : ∀ k ∈ ks, bs.length ≤ k := fun k hk => by
              have := List.all_eq_true.1 hks k hk
              simp only [Bool.not_eq_true'] at this
              have h' : ¬ k < bs.length := fun hlt => by
                have e : Nat.blt k bs.length = true := Nat.ble_eq_true_of_le hlt
                rw [e] at this; cases this
              omega
            have keyBox : ∀ (i b : Nat), bl[i]? = some b → μ2 i = some (.box b) ∧ ¬ S2 b := fun i b hib => by
              have hi : i < bs.length := by rw [← hbl]; exact (List.getElem?_eq_some_iff.1 hib).1
              obtain ⟨b', q1, q2, _⟩ := b2 (K := ks) (fun _ h => h) i _ (List.getElem?_eq_getElem (l := cs) (i := i) (by omega))
              rw [Nat.zero_add] at q1
              rcases hx2.keys i (.box b) (List.mem_range.2 hi) (by simp [μ0, hib]) with e | e
              · rw [q1] at e
                cases e
                exact ⟨q1, q2⟩
              · rw [q1] at e; cases e
            have notS3 : ∀ (i b : Nat), bl[i]? = some b → ¬ frozenBy μ2 S2 ks b := fun i b hib hf => by
              obtain ⟨q1, q2⟩ := keyBox i b hib
              rcases hf with hf | ⟨k, hk, o⟩
              · exact q2 hf
              · have hi : i < bs.length := by rw [← hbl]; exact (List.getElem?_eq_some_iff.1 hib).1
                have := g1.inj k i b o (by rw [q1]; rfl)
                have := hge k hk
                omega
            refine ⟨_, hru, frozenBy μ2 S2 ks, rv, us, nb, cs, hr, rfl, rvs_mono g3 (fun b h => .inl h), ⟨fun b h => .inl (hx2.st b h), fun b hb => ?_, fun b hb => ?_, fun b hb hnm => hx2.frame b hb (fun k o => hnm (List.mem_of_getElem? (own0 k b o))), hx2.size, hx2.os, hx2.tape, hx2.output⟩, fun b hb => ?_, b1, fun i b c hib hc => ?_⟩
            · have viaOwn : ((∃ j, owns (μ0 j) b) ∨ w.heap.size ≤ b) → S b ∨ w.heap.size ≤ b := fun h => by
                rcases h with ⟨j, o⟩ | h
                · exact absurd hb (notS3 j b (own0 j b o))
                · exact .inr h
              rcases hb with h | ⟨k, hk, o⟩
              · rcases hx2.st' b h with h | h | h
                · exact .inl h
                · exact viaOwn (.inl h)
                · exact .inr h
              · exact viaOwn (hx2.own' k b o)
            · rcases hb with h | ⟨k, hk, o⟩
              · exact g1.slt b h
              · exact g1.lt k b o
            · obtain ⟨q1, q2, ⟨j, q3⟩, q4⟩ := g4 b hb
              refine ⟨fun h => ?_, ?_, q4⟩
              · rcases h with h | ⟨k, _, o⟩
                · exact q1 h
                · exact q2 k o
              · rcases hx1.own' j b q3 with ⟨j', o⟩ | h
                · obtain ⟨q5, _⟩ := keyBox j' b (own0 j' b o)
                  exact absurd (by rw [q5]; rfl) (q2 j')
                · exact h
            · obtain ⟨b', q1, q2, q3⟩ := b2 (K := ks) (fun _ h => h) i c hc
              rw [Nat.zero_add] at q1
              obtain ⟨q4, _⟩ := keyBox i b hib
              rw [q1] at q4
              cases q4
              exact q3
          · exact hr.elim
        · exact hr.elim
      · exact hr.elim
    · exact hr.elim)
    (fun j r h1 h2 hE => by cases j <;> first | exact h1 rfl | exact h2 rfl | exact hE)
  exact ⟨callsIn_wideR.1 k1, k2⟩

theorem ctB_by {g : Nat} {fn : Func} {c : Code} {as : List BA} {bs : List (List PV)} {Φ : List RV → List (List PV) → Prop} {X : Prop} (h : X) (n : Nat) (ans : List (Nat × Q)) (hmix : P.follows .mixedOrders = true) (hf : P.funcs[g]? = some fn)
    (hb : fn.body = some c) (hx : okFn fn as.length = true)
    (hX : X = runX P n ⟨false, List.range bs.length, [], liftE (endB P bs.length fn.results.toList Φ)⟩ ans 0 [.code c] ⟨envOf 0 (as.map BA.av), boxesFrom 0 bs, 0, fn.ntmps⟩) : CtB P g as bs Φ := ctB_of n ans hmix hf hb hx (hX ▸ h)

/-! ### What is shown, in words for proofs -/
theorem RvsLe.refl : ∀ rs : List RV, RvsLe rs rs
  | [] => .nil
  | .pv p :: r => .cons (.pv (.refl p)) (RvsLe.refl r)
  | .fresh e s es :: r => .cons (.fresh ⟨rfl, fun j p q hp hq => by rw [hp] at hq; cases hq; exact .refl p⟩) (RvsLe.refl r)
theorem PVsLe.refl (ps : List PV) : PVsLe ps ps := ⟨rfl, fun j p q hp hq => by rw [hp] at hq; cases hq; exact .refl p⟩
theorem PVsLe.cons {p q : PV} {ps qs : List PV} (h : PVLe p q) (hs : PVsLe ps qs) : PVsLe (p :: ps) (q :: qs) := ⟨by simp [hs.1], fun j x y hx hy => by
  cases j with
  | zero => simp at hx hy; subst hx; subst hy; exact h
  | succ j => exact hs.2 j x y (by simpa using hx) (by simpa using hy)⟩
theorem PVsLe.nil : PVsLe [] [] := .refl []
theorem PVLe.mkAgg {as bs : List PV} (h : PVsLe as bs) : PVLe (.agg as) (.agg bs) := .agg h.1 h.2
theorem PVLe.nil (f : Bool) : PVLe (.sl f []) (.sl false []) := .flag f []
theorem PVLe.mkSl {f : Bool} {as bs : List PV} (h : PVsLe as bs) : PVLe (.sl f as) (.sl false bs) := .sl (fun h => by cases h) h.1 h.2
theorem RvLe.toRow (e s : Nat) (es : List PV) : RvLe (.fresh e s es) (.pv (.sl false es)) := .row (.refl es)
theorem Ct.ofP {g : Nat} {ps : List PV} {rs : List RV} (h : CtP P g ps (fun r => RvsLe r rs)) : Ct P g ps rs := h
theorem RvLe.trans {a b c : RV} (h : RvLe a b) (h' : b = c) : RvLe a c := h' ▸ h

theorem Jn_of {V : Type} {J : V → Prop} {T : (V → Prop) → Prop} (h : T J) : Jn J T := h
/-- A loop, by a measure. -/
theorem Lo_of {V : Type} {F : (V → Prop) → V → Prop} (I : V → Prop) (m : V → Nat) (h : ∀ (L : V → Prop) (v : V), I v → (∀ v', I v' → m v' < m v → L v') → F L v) {v : V} (hv : I v) : Lo F v := by
  have key : ∀ n v, I v → m v < n → itL F n v := by
    intro n
    induction n with
    | zero => intro v _ h; omega
    | succ n ih => intro v hv hm; exact h _ v hv fun v' hv' hlt => ih v' hv' (by omega)
  exact ⟨m v + 1, key _ v hv (Nat.lt_succ_self _)⟩
end Go.Mir
