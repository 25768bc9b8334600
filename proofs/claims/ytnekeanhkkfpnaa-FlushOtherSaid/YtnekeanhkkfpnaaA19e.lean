import Derived.Test.YtnekeanhkkfpnaaA19d
set_option linter.all false
set_option linter.unusedVariables false
set_option linter.unusedSimpArgs false
set_option linter.unnecessarySimpa false
namespace Go.Proofs.Ytnekeanhkkfpnaa.M
open Go Go.Mir Go.Proofs

theorem hear_is {b b' : Barrier} {i : Nat} {x : Item} {e : Int} (h : hearB b i x = (b', e)) (hi : i < b.acked.length) (hc : b.count.length = b.acked.length) (hl : b.acked.length ≤ 1000) {ps : List PV} (hp : ps.map PV.dull = [eBarrier b, I i, eItem x]) : Cl 15 ps [.pv (eBarrier b'), .pv (I e)] := by
  have := c15 b i x hi hc hl
  rw [h] at this
  exact this.dull hp
def k0 : Barrier := ⟨false, 0, [false, false], [0, 0], false, []⟩
def k1 : Barrier := ⟨true, 1, [false, false], [0, 0], false, []⟩
def k2 : Barrier := ⟨true, 1, [true, false], [3, 0], false, []⟩
def k3 : Barrier := ⟨true, 1, [true, true], [3, 4], false, []⟩
def k4 : Barrier := ⟨true, 1, [true, true], [3, 4], true, [3, 4]⟩
theorem c8 : Cl 8 [] [.pv (B true)] := t8 (by
  have h0 : Cl 19 [I 2] [.pv (eBarrier k0)] := c19 (by omega) (by omega)
  refine ⟨k0, h0, k1, 0, hear_is (b := k0) (i := 0) (x := ⟨4, 1, 0, 1, 0, 0, [], []⟩) rfl (by decide) rfl (by decide) rfl, _, _, c17 k1 1 4 (by decide) (by decide),
    k2, 0, hear_is (b := k1) (i := 0) (x := ⟨5, 2, 0, 0, 0, 3, [], []⟩) rfl (by decide) rfl (by decide) rfl, k3, 0, hear_is (b := k2) (i := 1) (x := ⟨5, 1, 0, 0, 0, 4, [], []⟩) rfl (by decide) rfl (by decide) rfl,
    _, _, c17 k3 0 3 (by decide) (by decide), _, _, c17 k3 1 4 (by decide) (by decide), k4, 0, hear_is (b := k3) (i := 0) (x := ⟨6, 3, 0, 0, 0, 0, [3, 4], []⟩) rfl (by decide) rfl (by decide) rfl,
    k3, 2, hear_is (b := k3) (i := 1) (x := ⟨6, 3, 0, 0, 0, 0, [3, 4], []⟩) rfl (by decide) rfl (by decide) rfl, k3, 1, hear_is (b := k3) (i := 1) (x := ⟨3, 3, 0, 0, 0, 0, [], []⟩) rfl (by decide) rfl (by decide) rfl, ?_⟩
  refine Fk_t rfl (Fk_t rfl (Fk_t rfl (Fk_t rfl (Fk_t rfl (Fk_t rfl (Fk_t rfl (Fk_t rfl (Fk_t rfl (Fk_t rfl ⟨_, c26 _ [3, 4], Fk_t rfl (Fk_t rfl (Fk_t rfl ⟨_, c23 _, Fk_t rfl ⟨_, c23 _, Fk_t rfl ⟨_, c21 _, Fk_t rfl ⟨_, c21 _, Fk_t rfl (Fk_t rfl (Fk_t rfl ⟨_, c11 _ _ rfl, Fk_t rfl ⟨_, c11 _ _ rfl, Fk_t rfl ⟨_, c12 _ _, Fk_t rfl ⟨_, c12 _ _, .refl _⟩⟩⟩⟩))⟩⟩⟩⟩))⟩)))))))))
  )
theorem tmod_nat (a n : Nat) (h : a ≤ 9223372036854775807) : Int.tmod (w64 (a : Int)) (n : Int) = ((a % n : Nat) : Int) := by rw [w64_id (by omega) (by omega)]; rfl
theorem u8_le (x : UInt8) : x.toNat ≤ 255 := by have := x.toNat_lt; omega
theorem flushTells (e : FlushTellsIn) : Cl 3 [eFlushTellsIn e] [.pv (B true)] := t3 _ (by
  refine ⟨_, c8, _, c9 _, Fk_of (fun _ => .refl _) fun hf => ⟨_, c9 _, Fk_of (fun _ => .refl _) fun ho => ⟨_, c10 _ _, _, c11 _ _ (by simpa using hf), Fk_of (fun h => by simp at h) fun _ => ⟨_, c12 _ _, _, c13 _ _, Fk_of (fun h => by simp at h) fun _ => Fk_of (fun _ => .refl _) fun hr => ⟨_, c14 _, Fk_of (fun _ => .refl _) fun hm => ?_⟩⟩⟩⟩⟩
  obtain ⟨m, en, r⟩ := (rt_iff _ _).1 (by simpa using hr)
  have h2 := r.lo; have h64 := r.hi; have hla := r.la; have hlc := r.lc
  have hu := u8_le e.from_
  have hm' : e.from_.toNat % m < m := Nat.mod_lt _ (by omega)
  rw [en, tmod_nat _ _ (by omega)]
  refine ⟨by omega, _, _, c15 _ _ _ (by omega) (by omega) (by omega), _, _, c16 _ _ _ (by omega) (by omega) (by omega), _, _, c17 _ _ _ (by omega) (by omega), _, _, c18 _ _ _ (by omega) (by omega), Fk_t rfl ⟨_, c19 (by omega) (by omega), _, c20 (by omega) (by omega), _, c13 _ _, Fk_t ((sameB_iff _ _).2 rfl) ⟨_, c13 _ _, Fk_t ((sameB_iff _ _).2 rfl) (Fk_t (by simp) ⟨_, c21 _, _, c22 _, Fk_t (by simp) ⟨_, c23 _, _, c24 _, Fk_t (by simp) ⟨_, c25 _ _, Fk_t (by simp [sameI]) (.of_eq (by simp))⟩⟩⟩)⟩⟩⟩)
theorem may_kind {x : Item} (h : mayI x = true) : (x.kind = 4 → x.index = 0 ∨ x.index = 1) ∧ (x.kind = 5 → 0 ≤ x.count ∧ x.count ≤ 4611686018427387904) ∧ (x.kind = 6 → each x.l 4611686018427387904 = true) := by
  simp only [mayI, Bool.and_eq_true] at h
  obtain ⟨⟨h, _⟩, _⟩ := h
  refine ⟨fun k => ?_, fun k => ?_, fun k => ?_⟩ <;> simp [ruleOf, k, bare, within, noth, many] at h
  · omega
  · omega
  · exact h.2.1.2
theorem rowEq_set {α β : Type} {f : α → β → Bool} : ∀ {a : List α} {b : List β} (i : Nat) (x : α) (y : β), rowEq f a b = true → f x y = true → rowEq f (a.set i x) (b.set i y) = true
  | [], [], i, x, y, _, _ => rfl
  | a :: r, b :: s, 0, x, y, h, hf => by simp [rowEq] at h ⊢; exact ⟨hf, h.2⟩
  | a :: r, b :: s, i + 1, x, y, h, hf => by simp [rowEq] at h ⊢; exact ⟨h.1, rowEq_set i x y h.2 hf⟩
theorem each_set : ∀ {l : List Int} {m : Int} (i : Nat) (x : Int), each l m = true → within x 0 m = true → each (l.set i x) m = true
  | [], m, i, x, h, hx => rfl
  | a :: r, m, 0, x, h, hx => by rw [List.set_cons_zero, each_cons]; rw [each_cons] at h; simp at h ⊢; exact ⟨hx, h.2⟩
  | a :: r, m, i + 1, x, h, hx => by rw [List.set_cons_succ, each_cons]; rw [each_cons] at h; simp at h ⊢; exact ⟨h.1, each_set i x h.2 hx⟩
/-- What hearing does, case by case. -/
theorem hear_cases (b : Barrier) (i : Nat) (x : Item) : (hearB b i x = (b, 1) ∨ hearB b i x = (b, 2)) ∨ (x.kind = 4 ∧ i = 0 ∧ b.on = false ∧ hearB b i x = ({ b with on := true, next := x.index }, 0)) ∨
    (x.kind = 5 ∧ b.acked[i]? ≠ some true ∧ hearB b i x = ({ b with acked := b.acked.set i true, count := b.count.set i x.count }, 0)) ∨ (x.kind = 6 ∧ i = 0 ∧ b.done = false ∧ x.l.length = b.acked.length ∧ hearB b i x = ({ b with done := true, l := x.l }, 0)) := by
  unfold hearB
  by_cases h4 : x.kind = 4
  · rw [if_pos h4]
    by_cases h : i ≠ 0 ∨ b.on = true
    · exact .inl (.inr (by simp [heard, flushB, h]))
    · simp only [not_or, Decidable.not_not, Bool.not_eq_true] at h
      exact .inr (.inl ⟨h4, h.1, h.2, by simp [heard, flushB, h]⟩)
  rw [if_neg h4]
  by_cases h5 : x.kind = 5
  · rw [if_pos h5]
    by_cases h : b.acked[i]? = some true
    · exact .inl (.inr (by simp [heard, ackB, h]))
    · exact .inr (.inr (.inl ⟨h5, h, by simp [heard, ackB, h]⟩))
  rw [if_neg h5]
  by_cases h6 : x.kind = 6
  · rw [if_pos h6]
    by_cases h : i ≠ 0 ∨ b.done = true ∨ x.l.length ≠ b.acked.length
    · exact .inl (.inr (by rw [instB, if_pos h]; rfl))
    · have h' := h
      simp only [not_or, Decidable.not_not, Bool.not_eq_true] at h
      exact .inr (.inr (.inr ⟨h6, h.1, h.2.1, h.2.2, by rw [instB, if_neg h']; rfl⟩))
  · rw [if_neg h6]; exact .inl (.inl rfl)
theorem hear_rt {b : Barrier} {n i : Nat} {x : Item} (r : Rt b n) (hm : mayI x = true) : Rt (hearB b i x).1 n := by
  obtain ⟨m4, m5, m6⟩ := may_kind hm
  rcases hear_cases b i x with (h | h) | ⟨k, _, ho, h⟩ | ⟨k, ha, h⟩ | ⟨k, _, hd, hl, h⟩ <;> rw [h]
  · exact r
  · exact r
  · have := m4 k
    exact { r with nx := by rcases this with h | h <;> simp [h] }
  · have := m5 k
    refine { r with la := by simpa using r.la, lc := by simpa using r.lc, ack := rowEq_set _ _ _ r.ack rfl, ec := each_set _ _ r.ec (by simp [within, this]) }
  · have hla := r.la
    exact { r with ln := by simp; omega, el := m6 k }
theorem hear_no {b : Barrier} {i : Nat} {x : Item} (h : (hearB b i x).2 ≠ 0) : (hearB b i x).1 = b := by
  rcases hear_cases b i x with (h' | h') | ⟨_, _, _, h'⟩ | ⟨_, _, h'⟩ | ⟨_, _, _, _, h'⟩ <;> rw [h'] at h ⊢ <;> simp at h
theorem whole_get {b : Barrier} (h : whole b = true) {i : Nat} (hi : i < b.acked.length) : b.acked[i]? = some true := by
  have := List.all_eq_true.1 h _ (List.getElem_mem hi)
  simp at this
  rw [List.getElem?_eq_getElem hi, this]
theorem hear_ready {b : Barrier} {n i : Nat} {x : Item} (hi : i < b.acked.length) (h : ready b = true) : ready (hearB b i x).1 = true := by
  have h0 := h
  simp only [ready, Bool.and_eq_true] at h
  rcases hear_cases b i x with (h' | h') | ⟨_, _, ho, h'⟩ | ⟨_, ha, h'⟩ | ⟨_, _, hd, _, h'⟩
  · rw [h']; exact h0
  · rw [h']; exact h0
  · rw [h.1.1.1] at ho; cases ho
  · exact absurd (whole_get h.1.2 hi) ha
  · rw [h.1.1.2] at hd; cases hd
theorem hear_acked {b : Barrier} {i j : Nat} {x : Item} (h : b.acked[j]? = some true) : (hearB b i x).1.acked[j]? = some true ∧ (hearB b i x).1.count[j]? = b.count[j]? := by
  rcases hear_cases b i x with (h' | h') | ⟨_, _, ho, h'⟩ | ⟨_, ha, h'⟩ | ⟨_, _, hd, _, h'⟩ <;> rw [h']
  · exact ⟨h, rfl⟩
  · exact ⟨h, rfl⟩
  · exact ⟨h, rfl⟩
  · have hij : i ≠ j := fun e => ha (e ▸ h)
    simp [List.getElem?_set, hij, h]
  · exact ⟨h, rfl⟩
theorem flushStays (e : FlushStaysIn) : Cl 4 [eFlushStaysIn e] [.pv (B true)] := t4 _ (by
  refine ⟨_, c8, _, c9 _, Fk_of (fun _ => .refl _) fun hf => ⟨_, c10 _ _, Fk_of (fun _ => .refl _) fun hr => ⟨_, c14 _, Fk_of (fun _ => .refl _) fun hm => ?_⟩⟩⟩
  obtain ⟨m, en, r⟩ := (rt_iff _ _).1 (by simpa using hr)
  have hm2 : mayI e.it = true := by simpa using hm
  have h2 := r.lo; have h64 := r.hi; have hla := r.la; have hlc := r.lc
  have hu := u8_le e.from_
  have hm' : e.from_.toNat % m < m := Nat.mod_lt _ (by omega)
  rw [en, tmod_nat _ _ (by omega)]
  have r' : Rt (hearB e.b (e.from_.toNat % m) e.it).1 m := hear_rt r hm2
  have hready : ready e.b = true → ready (hearB e.b (e.from_.toNat % m) e.it).1 = true := hear_ready (n := m) (by omega)
  have hno : (hearB e.b (e.from_.toNat % m) e.it).2 ≠ 0 → (hearB e.b (e.from_.toNat % m) e.it).1 = e.b := hear_no
  have hack : ∀ j, e.b.acked[j]? = some true → _ := fun j h => hear_acked (i := e.from_.toNat % m) (x := e.it) h
  refine ⟨by omega, _, _, c15 _ _ _ (by omega) (by omega) (by omega), ?_⟩
  generalize (hearB e.b (e.from_.toNat % m) e.it).1 = y at *
  generalize (hearB e.b (e.from_.toNat % m) e.it).2 = z at *
  have hla' := r'.la; have hlc' := r'.lc
  simp only [SmA_true, true_and, List.length_map]
  refine Jn_mid (fun v => v = (true, (), (y.on, y.next, y.acked.map B, y.count.map I, y.done, y.l.map I, ()), ())) ?_ ?_
  · intro j hj
    have hj' := hj _ rfl
    refine ⟨_, c10 _ _, Fk_of (fun h => ?_) fun _ => Fk_of (fun h => ⟨_, c13 _ _, Fk_of (fun h' => ?_) fun _ => ⟨_, c23 _, Fk_of (fun h1 => ⟨_, c23 _, Fk_of (fun h2 => ?_) fun _ => hj'⟩) fun _ => hj'⟩⟩) fun _ => ⟨_, c23 _, Fk_of (fun h1 => ⟨_, c23 _, Fk_of (fun h2 => ?_) fun _ => hj'⟩) fun _ => hj'⟩⟩
    · rw [(rt_iff _ _).2 ⟨m, rfl, r'⟩] at h; cases h
    · simp at h; rw [hno h, (sameB_iff _ _).2 rfl] at h'; cases h'
    · rw [hready h1] at h2; cases h2
    · rw [hready h1] at h2; cases h2
  · rintro _ rfl
    refine Lo_up m (fun i v => v = (true, (i : Int), (), (y.on, y.next, y.acked.map B, y.count.map I, y.done, y.l.map I, ()), ())) ?_ (Nat.zero_le _) rfl
    rintro L i _ hi rfl hL
    by_cases hlt : i < m
    · refine Fk_t (by simpa using hlt) ?_
      refine Jn_mid (fun v => v = (true, (i : Int), (), (y.on, y.next, y.acked.map B, y.count.map I, y.done, y.l.map I, ()), ())) ?_ ?_
      · intro j hj
        have ha := List.getElem?_eq_getElem (by omega : i < e.b.acked.length)
        refine Ix_nat ha (Fk_of (fun h => ?_) fun _ => hj _ rfl)
        obtain ⟨q1, q2⟩ := hack i (by rw [ha, h])
        have hc := List.getElem?_eq_getElem (by omega : i < e.b.count.length)
        rw [hc] at q2
        refine Ix_nat q1 (Fk_f rfl (Ix_nat q2 (Ix_nat hc (Fk_f (by simp) (hj _ rfl)))))
      · rintro _ rfl
        rw [w64_succ hlt (by omega)]; exact hL _ hlt rfl
    · exact Fk_f (by simp; omega) (.refl _))
end Go.Proofs.Ytnekeanhkkfpnaa.M
