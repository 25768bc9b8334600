import Derived.Test.YtbphgomdjjkffaaW20
set_option linter.all false
set_option linter.unusedVariables false
set_option linter.unusedSimpArgs false
set_option linter.unnecessarySimpa false
namespace Go.Proofs.Ytbphgomdjjkffaa.M
open Go Go.Mir Go.Proofs
namespace W9
theorem c8 : Cl 8 [] [.pv (B true)] := t8 (by
  unfold P8
  refine ⟨_, c15, _, _, (c17 newW ⟨3, 2, 0, 0, 0, 0, [], []⟩ 9).dull rfl, ?_⟩
  have e1 : putW newW ⟨3, 2, 0, 0, 0, 0, [], []⟩ 9 = (⟨1, [⟨3, 2, 0, 0, 0, 0, [], []⟩]⟩, true) := by kernel_rfl
  simp only [e1]
  refine ⟨_, _, c19 _, _, _, (c17 _ ⟨3, 2, 0, 0, 0, 0, [], []⟩ 9).dull rfl, _, _, (c17 _ ⟨3, 9, 0, 0, 0, 0, [], []⟩ 8).dull rfl, _, _, (c17 _ ⟨3, 1, 0, 0, 0, 0, [], []⟩ 9).dull rfl, ?_⟩
  have e2 : putW ⟨1, [⟨3, 2, 0, 0, 0, 0, [], []⟩]⟩ ⟨3, 1, 0, 0, 0, 0, [], []⟩ 9 = (⟨1, [⟨3, 1, 0, 0, 0, 0, [], []⟩, ⟨3, 2, 0, 0, 0, 0, [], []⟩]⟩, true) := by kernel_rfl
  simp only [e2]
  refine ⟨_, _, c23 _ _ (by kernel_rfl), _, _, _, c21 _ (by decide), ?_⟩
  have e3 : takeW ⟨1, [⟨3, 1, 0, 0, 0, 0, [], []⟩, ⟨3, 2, 0, 0, 0, 0, [], []⟩]⟩ = (⟨3, 1, 0, 0, 0, 0, [], []⟩, ⟨2, [⟨3, 2, 0, 0, 0, 0, [], []⟩]⟩, true) := by kernel_rfl
  simp only [e3]
  refine ⟨_, _, _, c21 _ (by decide), ?_⟩
  have e4 : takeW ⟨2, [⟨3, 2, 0, 0, 0, 0, [], []⟩]⟩ = (⟨3, 2, 0, 0, 0, 0, [], []⟩, ⟨3, []⟩, true) := by kernel_rfl
  simp only [e4]
  refine ⟨_, _, _, c21 _ (by decide), ?_⟩
  refine Fk_t rfl (Fk_t (by kernel_rfl) (Fk_t (by kernel_rfl) (Fk_t (by kernel_rfl) (Fk_t rfl (Fk_t (by kernel_rfl) (Fk_t (by kernel_rfl) (Fk_t rfl (Fk_t rfl (Fk_t rfl (Fk_t rfl (Fk_t (by kernel_rfl) ?_)))))))))))
  refine ⟨_, c12 _, Fk_t (by kernel_rfl) ⟨_, (c12 ⟨0, []⟩).dull rfl, Fk_t (by kernel_rfl) ⟨_, c13 _ _, Fk_t (by kernel_rfl) ⟨_, c13 _ _, ?_⟩⟩⟩⟩
  rw [rvB]; kernel_rfl)

def ack (n i : Int) : Item := ⟨5, n, 0, 0, 0, i, [], []⟩
theorem ack_may {n i : Int} (h1 : 1 ≤ n) (h2 : n ≤ 30) (h3 : 0 ≤ i) (h4 : i < 100) : mayI (ack n i) = true := by
  have a1 : n ≤ 4611686018427387904 := by omega
  have a2 : i ≤ 4611686018427387904 := by omega
  simp [ack, mayI, ruleOf, bare, noth, within, h1, a1, h3, a2]
theorem mem_insR {x y : Item} : ∀ {l : List Item}, y ∈ insR x l ↔ y = x ∨ y ∈ l
  | [] => by simp [insR]
  | a :: r => by
    unfold insR; split
    · simp
    · rw [List.mem_cons, mem_insR (l := r), List.mem_cons]; constructor <;> (intro h; rcases h with h | h | h <;> simp [h])
theorem waits_iff {l : List Item} {s : Int} : waits l s = true ↔ ∃ x ∈ l, x.seq = s := by simp [waits]

/-- What came of all so far: F tells of each number when. -/
structure IV (F : List Int) (w : Win) : Prop where
  right : rightW w = true
  next : w.next = 1
  len : F.length = 31
  mem : ∀ x ∈ w.l, 1 ≤ x.seq ∧ x.seq ≤ 30 ∧ 0 ≤ x.count ∧ x.count < 100 ∧ F[x.seq.toNat]? = some (x.count + 1)
  none : ∀ n : Nat, n < 31 → waits w.l n = false → F[n]? = some 0
theorem IV.asc {F : List Int} {w : Win} (h : IV F w) : asc 1 w.l = true := by have := (right_parts h.right).2.2.2; rwa [h.next] at this
theorem IV.small {F : List Int} {w : Win} (h : IV F w) {s : Int} (hs : waits w.l s = true) : 1 ≤ s ∧ s ≤ 30 := by
  obtain ⟨x, hx, rfl⟩ := waits_iff.1 hs
  exact ⟨(h.mem x hx).1, (h.mem x hx).2.1⟩
theorem IV.llen {F : List Int} {w : Win} (h : IV F w) : w.l.length ≤ 30 := by
  have := asc_len h.asc (m := 30) (fun s hs => (h.small hs).2) (by omega)
  omega
/-- What F tells at a place. -/
theorem IV.at {F : List Int} {w : Win} (h : IV F w) {n : Int} (h0 : 1 ≤ n) (h1 : n ≤ 30) : ∃ v : Int, F[n.toNat]? = some v ∧ (v != 0) = waits w.l n ∧ 0 ≤ v ∧ v ≤ 100 ∧ ∀ x ∈ w.l, x.seq = n → v = x.count + 1 := by
  cases hw : waits w.l n with
  | true =>
    obtain ⟨x, hx, rfl⟩ := waits_iff.1 hw
    obtain ⟨_, _, g3, g4, g5⟩ := h.mem x hx
    refine ⟨_, g5, by simp; omega, by omega, by omega, fun y hy e => ?_⟩
    have := (h.mem y hy).2.2.2.2
    rw [e, g5] at this; exact Option.some.inj this
  | false =>
    refine ⟨0, ?_, rfl, by omega, by omega, fun x hx e => ?_⟩
    · have := h.none n.toNat (by omega) (by rw [Int.toNat_of_nonneg (by omega)]; exact hw)
      exact this
    · exact absurd (waits_iff.2 ⟨x, hx, e⟩) (by rw [hw]; simp)
theorem IV.put {F : List Int} {w : Win} (h : IV F w) {n i : Int} (h0 : 1 ≤ n) (h1 : n ≤ 30) (h2 : 0 ≤ i) (h3 : i < 100) :
    (waits w.l n = true → putW w (ack n i) 64 = (w, false)) ∧ (waits w.l n = false → ∃ w', putW w (ack n i) 64 = (w', true) ∧ IV (F.set n.toNat (i + 1)) w') := by
  obtain ⟨r1, r2, r3, r4⟩ := right_parts h.right
  have hq := put_eq r4 (ack n i) 64
  have hs : (ack n i).seq = n := rfl
  refine ⟨fun hw => ?_, fun hw => ?_⟩
  · rw [hq]; exact if_pos (.inr (.inr (.inr (.inr hw))))
  · have hr := right_put h.right (ack n i) 64
    have hl := h.llen
    have e : putR w (ack n i) 64 = (⟨w.next, insR (ack n i) w.l⟩, true) := if_neg (by
      rw [ack_may h0 h1 h2 h3, hs, hw, h.next]; simp; omega)
    rw [hq, e] at hr ⊢
    refine ⟨_, rfl, hr, h.next, by rw [List.length_set]; exact h.len, fun x hx => ?_, fun m hm hwm => ?_⟩
    · rcases mem_insR.1 hx with rfl | hx
      · refine ⟨h0, h1, h2, h3, ?_⟩
        rw [List.getElem?_set]; simp only [hs, if_true]
        rw [if_pos (by rw [h.len]; omega)]; rfl
      · obtain ⟨g1, g2, g3, g4, g5⟩ := h.mem x hx
        refine ⟨g1, g2, g3, g4, ?_⟩
        have : n ≠ x.seq := fun e => by rw [waits_iff.2 ⟨x, hx, e.symm⟩] at hw; cases hw
        rw [List.getElem?_set, if_neg (by omega)]; exact g5
    · rw [waits_insR, Bool.or_eq_false_iff] at hwm
      have : n ≠ m := by have := hwm.2; simp [hs] at this; exact this
      rw [List.getElem?_set, if_neg (by omega)]
      exact h.none m hm hwm.1
/-- What waits behind the run. -/
theorem run_waits {l : List Item} {k : Nat} (h : asc 1 l = true) (hk : k ≤ runLen 1 l) : waits l (1 + k) = decide (k < runLen 1 l) := by
  by_cases c : k < runLen 1 l
  · rw [waits_run c]; simp [c]
  · rw [waits_gap h (by omega) (fun x hx => by have := run_next h hx; omega)]; simp [c]
end W9
end Go.Proofs.Ytbphgomdjjkffaa.M
