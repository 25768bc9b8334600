import Derived.Test.YtnekeanhkkfpnaaA19a
set_option linter.all false
set_option linter.unusedVariables false
set_option linter.unusedSimpArgs false
set_option linter.unnecessarySimpa false
namespace Go.Proofs.Ytnekeanhkkfpnaa.M
open Go Go.Mir Go.Proofs

theorem okI (l : List Int) : okNews 1 (l.map I) = true := okNews_map (e := I) (fun _ => rfl) (fun _ => rfl) l
theorem okB (l : List Bool) : okNews 1 (l.map B) = true := okNews_map (e := B) (fun _ => rfl) (fun _ => rfl) l
theorem c36 (l : List Int) (h : l.length ≤ 1000) : Cl 36 [lI l] [.fresh 3 1 (l.map I)] := t36 _ (Nq_map (fun _ => by simp [PV.cells]) (fun h => h ▸ .rowNil) (Ok_of (okI _) (Sz_of (by simp; omega) .row)))
theorem c41 (l : List Bool) (h : l.length ≤ 1000) : Cl 41 [lB l] [.fresh 4 1 (l.map B)] := t41 _ (Nq_map (fun _ => by simp [PV.cells]) (fun h => h ▸ .rowNil) (Ok_of (okB _) (Sz_of (by simp; omega) .row)))
/-- The first place, or none. -/
def place {α : Type} (f : α → Bool) : Nat → List α → Int
  | _, [] => -1
  | i, x :: r => if f x then i else place f (i + 1) r
theorem place_any {α : Type} (f : α → Bool) : ∀ (l : List α) (i : Nat), decide (0 ≤ place f i l) = l.any f
  | [], i => rfl
  | a :: r, i => by
    unfold place
    cases h : f a with
    | true => simp [h]
    | false => simp only [Bool.false_eq_true, if_false, List.any_cons, h, Bool.false_or]; exact place_any f r (i + 1)
theorem c42 (l : List Bool) (a : Bool) : Cl 42 [lB l, B a] [.pv (I (place (fun x => a == x) 0 l))] := t42 _ _ (by
  unfold P42
  simp only [Ln, SmA_true, true_and, List.length_map, rvI]
  intro hl
  refine Lo_drop l (fun i r v => v = ((i : Int), ()) ∧ place (fun x => a == x) 0 l = place (fun x => a == x) i r) ?_ ?_ ⟨rfl, rfl⟩
  · rintro L _ ⟨rfl, he⟩
    exact Fk_f (by simp) (by rw [he]; rfl)
  · rintro L i x r _ hi ha _ ⟨rfl, he⟩ hL
    refine Fk_t (by simpa using hi) (Ix_nat ha (Fk_of (fun h => ?_) (fun h => hL _ ⟨?_, ?_⟩)))
    · rw [he]; simp only [place, h, if_true]
    · simp only [w64_succ hi hl]
    · rw [he]; simp only [place, h, Bool.false_eq_true, if_false])
theorem c37 (l : List Bool) (a : Bool) : Cl 37 [lB l, B a] [.pv (B (l.any fun x => a == x))] := t37 _ _ ⟨_, c42 _ _, rvB.2 (place_any _ _ _)⟩
def whole (b : Barrier) : Bool := b.acked.all id
theorem any_not (l : List Bool) : (!(l.any fun x => false == x)) = l.all id := by
  induction l with
  | nil => rfl
  | cons a r ih => cases a <;> simp_all
theorem c21 (b : Barrier) : Cl 21 [eBarrier b] [.pv (B (whole b))] := t21 _ ⟨_, c37 _ _, rvB.2 (any_not _)⟩
theorem c22 (b : Barrier) : Cl 22 [eBarrier b] [.pv (B (whole b))] := t22 _ (by
  unfold P22
  simp only [Ln, SmA_true, true_and, List.length_map, rvB]
  refine Lo_drop b.acked (fun i r v => v = ((i : Int), (), ()) ∧ whole b = r.all id) ?_ ?_ ⟨rfl, rfl⟩
  · rintro L _ ⟨rfl, he⟩ _ _ _
    exact Fk_f (by simp) (by rw [he]; rfl)
  · rintro L i x r _ hi ha _ ⟨rfl, he⟩ hL hl _ _
    refine Fk_t (by simpa using hi) (Ix_nat ha (Fk_of (fun h => ?_) (fun h => hL _ ⟨?_, ?_⟩)))
    · rw [he]; simp at h; simp [h]
    · simp only [w64_succ hi hl]
    · rw [he]; simp at h; simp [h])
def ready (b : Barrier) : Bool := b.on && b.done && whole b && b.l == b.count
theorem c23 (b : Barrier) : Cl 23 [eBarrier b] [.pv (B (ready b))] := t23 _ (by
  refine Fk_of (fun h1 => Fk_of (fun h2 => ⟨_, c21 b, Fk_of (fun h3 => ⟨_, c30 _ _, ?_⟩) fun h3 => ?_⟩) fun h2 => ?_) fun h1 => ?_ <;> simp [rvB, ready, *])
theorem c24 (b : Barrier) : Cl 24 [eBarrier b] [.pv (B (ready b))] := t24 _ ⟨_, c22 b, _, c26 _ _, by
  refine Fk_of (fun h1 => Fk_of (fun h2 => Fk_of (fun h3 => ?_) fun h3 => ?_) fun h2 => ?_) fun h1 => ?_ <;> simp [rvB, ready, *]⟩
def sameB (a b : Barrier) : Bool := a.on == b.on && a.next == b.next && a.acked == b.acked && a.count == b.count && a.done == b.done && a.l == b.l
theorem c12 (a b : Barrier) : Cl 12 [eBarrier a, eBarrier b] [.pv (B (sameB a b))] := t12 _ _ (by
  refine Fk_of (fun h1 => Fk_of (fun h2 => ⟨_, c29 _ _, Fk_of (fun h3 => ⟨_, c30 _ _, Fk_of (fun h4 => Fk_of (fun h5 => ⟨_, c30 _ _, ?_⟩) fun h5 => ?_) fun h4 => ?_⟩) fun h3 => ?_⟩) fun h2 => ?_) fun h1 => ?_ <;> simp only [rvB, sameB, *] <;> simp)
theorem c13 (a b : Barrier) : Cl 13 [eBarrier a, eBarrier b] [.pv (B (sameB a b))] := t13 _ _ ⟨_, c31 _ _, _, c26 _ _, _, c26 _ _, by
  refine Fk_of (fun h1 => Fk_of (fun h2 => Fk_of (fun h3 => Fk_of (fun h4 => Fk_of (fun h5 => ?_) fun h5 => ?_) fun h4 => ?_) fun h3 => ?_) fun h2 => ?_) fun h1 => ?_ <;> simp only [rvB, sameB, *] <;> simp⟩
theorem sameB_iff (a b : Barrier) : sameB a b = true ↔ a = b := by
  cases a; cases b
  simp only [sameB, Bool.and_eq_true, beq_iff_eq, Barrier.mk.injEq]
  constructor <;> (intro h; simp_all)
def newB (n : Int) : Barrier := ⟨false, 0, List.replicate n.toNat false, List.replicate n.toNat 0, false, []⟩
theorem c19 {n : Int} (h : 0 ≤ n) (h' : n ≤ 1000) : Cl 19 [I n] [.pv (eBarrier (newB n))] := t19 _ ⟨h, by omega, by omega, by omega, h, by omega, by omega, by omega, .dull (by simp [newB, RV.dull, PV.dull, PV.dull1])⟩
theorem c20 {n : Int} (h : 0 ≤ n) (h' : n ≤ 1000) : Cl 20 [I n] [.pv (eBarrier (newB n))] := t20 _ ⟨h, by omega, by omega, by omega, h, by omega, by omega, by omega, .dull (by simp [newB, RV.dull, PV.dull, PV.dull1])⟩
/-! ### What is heard -/
def flushB (b : Barrier) (i : Nat) (x : Item) : Bool × Barrier := if i ≠ 0 ∨ b.on = true then (false, b) else (true, { b with on := true, next := x.index })
def ackB (b : Barrier) (i : Nat) (x : Item) : Bool × Barrier := if b.acked[i]? = some true then (false, b) else (true, { b with acked := b.acked.set i true, count := b.count.set i x.count })
def instB (b : Barrier) (i : Nat) (x : Item) : Bool × Barrier := if i ≠ 0 ∨ b.done = true ∨ x.l.length ≠ b.acked.length then (false, b) else (true, { b with done := true, l := x.l })
def heard (b : Barrier) (p : Bool × Barrier) : Barrier × Int := if p.1 then (p.2, 0) else (b, 2)
def hearB (b : Barrier) (i : Nat) (x : Item) : Barrier × Int :=
  if x.kind = 4 then heard b (flushB b i x) else if x.kind = 5 then heard b (ackB b i x) else if x.kind = 6 then heard b (instB b i x) else (b, 1)
theorem c33 (b : Barrier) (i : Nat) (x : Item) : Clb 33 [.b 0, .p (I i), .p (eItem x)] [(eBarrier b).cells] [.pv (B (flushB b i x).1)] [(eEar ⟨(flushB b i x).2⟩).cells] := t33a ⟨b⟩ _ _ (by
  refine Fk_of (fun h => ?_) fun h => Fk_of (fun h' => ?_) fun h' => ?_
  · have e : flushB b i x = (false, b) := if_pos (.inl (by simpa using h))
    rw [e]; exact ⟨.dull rfl, .dull (by simp [PV.dull, PV.dull1, PV.cells])⟩
  · have e : flushB b i x = (false, b) := if_pos (.inr h')
    rw [e]; exact ⟨.dull rfl, .dull (by simp [PV.dull, PV.dull1, PV.cells])⟩
  · have e : flushB b i x = (true, { b with on := true, next := x.index }) := if_neg (by simp at h h'; simp [h, h'])
    rw [e]; exact ⟨.dull rfl, .dull (by simp [PV.dull, PV.dull1, PV.cells])⟩)
theorem c34 (b : Barrier) (i : Nat) (x : Item) (hi : i < b.acked.length) (hc : b.count.length = b.acked.length) (hl : b.acked.length ≤ 1000) : Clb 34 [.b 0, .p (I i), .p (eItem x)] [(eBarrier b).cells] [.pv (B (ackB b i x).1)] [(eEar ⟨(ackB b i x).2⟩).cells] := t34a ⟨b⟩ _ _ (by
  have ha := List.getElem?_eq_getElem hi
  refine Ix_nat ha (Fk_of (fun h => ?_) fun h => ?_)
  · have e : ackB b i x = (false, b) := if_pos (by rw [ha, h])
    rw [e]; exact ⟨.dull rfl, .dull (by simp [PV.dull, PV.dull1, PV.cells])⟩
  · have e : ackB b i x = (true, { b with acked := b.acked.set i true, count := b.count.set i x.count }) := if_neg (by rw [ha, h]; simp)
    rw [e]
    refine ⟨_, c41 _ (by simpa using hl), _, c36 _ (by rw [hc]; exact hl), Rx_nat (by simpa using hi) ?_⟩
    rw [Nat.zero_add, Int.toNat_natCast]
    refine Ld_map ha (Rx_nat (by simp [hc, hi]) (Ld_map (List.getElem?_eq_getElem (by rw [hc]; exact hi)) ⟨.dull rfl, .dull ?_⟩))
    simp [PV.dull, PV.dull1, PV.cells, List.map_set])
theorem c35 (b : Barrier) (i : Nat) (x : Item) (hl : b.acked.length ≤ 1000) : Clb 35 [.b 0, .p (I i), .p (eItem x)] [(eBarrier b).cells] [.pv (B (instB b i x).1)] [(eEar ⟨(instB b i x).2⟩).cells] := t35a ⟨b⟩ _ _ (by
  simp only [P35a, Ln, List.length_map]
  intro _ _
  refine Fk_of (fun h => ?_) fun h => Fk_of (fun h' => ?_) fun h' => Fk_of (fun h2 => ?_) fun h2 => ?_
  · have e : instB b i x = (false, b) := if_pos (.inl (by simpa using h))
    rw [e]; exact ⟨.dull rfl, .dull (by simp [PV.dull, PV.dull1, PV.cells])⟩
  · have e : instB b i x = (false, b) := if_pos (.inr (.inl h'))
    rw [e]; exact ⟨.dull rfl, .dull (by simp [PV.dull, PV.dull1, PV.cells])⟩
  · have e : instB b i x = (false, b) := if_pos (.inr (.inr (by simp at h2; omega)))
    rw [e]; exact ⟨.dull rfl, .dull (by simp [PV.dull, PV.dull1, PV.cells])⟩
  · have e : instB b i x = (true, { b with done := true, l := x.l }) := if_neg (by simp at h h' h2; simp [h, h']; omega)
    have hx : x.l.length ≤ 1000 := by simp at h2; omega
    rw [e]
    refine ⟨_, c36 _ hx, .dull rfl, .dull (by simp [PV.dull, PV.dull1, PV.cells])⟩)
theorem c15 (b : Barrier) (i : Nat) (x : Item) (hi : i < b.acked.length) (hc : b.count.length = b.acked.length) (hl : b.acked.length ≤ 1000) : Cl 15 [eBarrier b, I i, eItem x] [.pv (eBarrier (hearB b i x).1), .pv (I (hearB b i x).2)] := t15 _ _ _ (by
  refine Fk_of (fun h => ⟨_, ⟨_⟩, c33 b i x, ?_⟩) fun h => Fk_of (fun h1 => ⟨_, ⟨_⟩, c34 b i x hi hc hl, ?_⟩) fun h1 => Fk_of (fun h2 => ⟨_, ⟨_⟩, c35 b i x hl, ?_⟩) fun h2 => ?_
  all_goals simp only [beq_iff_eq, beq_eq_false_iff_ne, ne_eq] at *
  · have e : hearB b i x = heard b (flushB b i x) := if_pos h
    rw [e]
    refine Fk_of (fun h => ?_) fun h => ?_ <;> simp only [Bool.not_eq_true', Bool.not_eq_false'] at h <;> simp only [heard, h] <;> exact .refl _
  · have e : hearB b i x = heard b (ackB b i x) := by simp [hearB, h, h1]
    rw [e]
    refine Fk_of (fun h => ?_) fun h => ?_ <;> simp only [Bool.not_eq_true', Bool.not_eq_false'] at h <;> simp only [heard, h] <;> exact .refl _
  · have e : hearB b i x = heard b (instB b i x) := by simp [hearB, h, h1, h2]
    rw [e]
    refine Fk_of (fun h => ?_) fun h => ?_ <;> simp only [Bool.not_eq_true', Bool.not_eq_false'] at h <;> simp only [heard, h] <;> exact .refl _
  · have e : hearB b i x = (b, 1) := by simp [hearB, h, h1, h2]
    rw [e]; exact .refl _)
theorem c16 (b : Barrier) (i : Nat) (x : Item) (hi : i < b.acked.length) (hc : b.count.length = b.acked.length) (hl : b.acked.length ≤ 1000) : Cl 16 [eBarrier b, I i, eItem x] [.pv (eBarrier (hearB b i x).1), .pv (I (hearB b i x).2)] := t16 _ _ _ (by
  have ha := List.getElem?_eq_getElem hi
  simp only [P16, SmA_true, true_and, Jn, Ln, List.length_map]
  refine Ok_of (okB _) (Sz_of (by omega) (Ok_of (okI _) (Sz_of (by omega) ?_)))
  refine Fk_of (fun h => ?_) fun h => Fk_of (fun h1 => ?_) fun h1 => Fk_of (fun h2 => ?_) fun h2 => ?_
  all_goals simp only [beq_iff_eq, beq_eq_false_iff_ne, ne_eq] at *
  · have e : hearB b i x = heard b (flushB b i x) := if_pos h
    rw [e]
    refine Fk_of (fun h => ?_) fun h => Fk_of (fun h' => ?_) fun h' => ?_ <;> simp at h <;> simp [heard, flushB, *] <;> exact .dull (by simp [RV.dull, PV.dull, PV.dull1])
  · have e : hearB b i x = heard b (ackB b i x) := by simp [hearB, h, h1]
    rw [e]
    refine Ix_nat ha (Fk_of (fun h => ?_) fun h => ?_)
    · simp [heard, ackB, ha, h]; exact .dull (by simp [RV.dull, PV.dull, PV.dull1])
    · refine Rx_nat (by omega) ?_
      rw [Nat.zero_add, Int.toNat_natCast]
      refine Ld_map ha (Rx_nat (by omega) (Ld_map (List.getElem?_eq_getElem (by rw [hc]; exact hi)) ?_))
      simp [heard, ackB, ha, h]; exact .dull (by simp [RV.dull, PV.dull, PV.dull1, List.map_set])
  · have e : hearB b i x = heard b (instB b i x) := by simp [hearB, h, h1, h2]
    rw [e]
    intro _ _ _ _ _
    refine Fk_of (fun h => ?_) fun h => Fk_of (fun h' => ?_) fun h' => Fk_of (fun h2 => ?_) fun h2 => ?_
    · simp at h; simp [heard, instB, h]; exact .dull (by simp [RV.dull, PV.dull, PV.dull1])
    · simp [heard, instB, h']; exact .dull (by simp [RV.dull, PV.dull, PV.dull1])
    · have : x.l.length ≠ b.acked.length := by simp at h2; omega
      simp [heard, instB, this]; exact .dull (by simp [RV.dull, PV.dull, PV.dull1])
    · have : x.l.length = b.acked.length := by simp at h2; omega
      simp at h
      simp [heard, instB, this, h, h']
      exact Ok_of (okI _) (Sz_of (by omega) (.dull (by simp [RV.dull, PV.dull, PV.dull1])))
  · have e : hearB b i x = (b, 1) := by simp [hearB, h, h1, h2]
    rw [e]; exact .dull (by simp [RV.dull, PV.dull, PV.dull1]))
end Go.Proofs.Ytnekeanhkkfpnaa.M
