import Derived.Test.YtnekeanhkkfpnaaA19c
set_option linter.all false
set_option linter.unusedVariables false
set_option linter.unusedSimpArgs false
set_option linter.unnecessarySimpa false
namespace Go.Proofs.Ytnekeanhkkfpnaa.M
open Go Go.Mir Go.Proofs

theorem right_no {b : Barrier} {n : Int} (h : ¬ ∃ m : Nat, n = m ∧ Rt b m) : rightB b n = false := by
  cases hr : rightB b n with
  | false => rfl
  | true => exact absurd ((rt_iff b n).1 hr) h
/-- The rest of what is right, behind the lengths and the places. -/
def tailB (b : Barrier) (n : Int) : Bool := (b.next == 0 || (b.on && b.next == 1)) && (if b.done then (b.l.length : Int) == n else (b.l.length : Int) == 0) && each b.count 4611686018427387904 && each b.l 4611686018427387904
theorem right_tail {b : Barrier} {n : Int} (h1 : 2 ≤ n) (h2 : n ≤ 64) (h3 : (b.acked.length : Int) = n) (h4 : (b.count.length : Int) = n) : rightB b n = (ackOk b && tailB b n) := by
  simp only [rightB, tailB, h1, h2, h3, h4, decide_true, BEq.rfl, Bool.true_and]
  cases ackOk b <;> simp [Bool.and_assoc]
theorem right_short {b : Barrier} {n : Int} (h : n < 2 ∨ 64 < n ∨ (b.acked.length : Int) ≠ n ∨ (b.count.length : Int) ≠ n) : rightB b n = false := right_no fun ⟨m, e, r⟩ => by
  have := r.lo; have := r.hi; have := r.la; have := r.lc; omega
theorem tail_real (b : Barrier) (n : Int) (hc : b.count.length ≤ 1000) (hl : b.l.length ≤ 1000 ) (x : Bool) (hx : (if b.done then (b.l.length : Int) == n else (b.l.length : Int) == 0) = x) {Φ : List RV → Prop} (hΦ : ∀ r, RvsLe r [.pv (B (tailB b n))] → Φ r)
    (hn : b.next = 0 ∨ b.on = true ∧ b.next = 1) : Fk x (∃ y, Cl 28 [lI b.count] [.pv (B y)] ∧ Fk y (∃ z, Cl 28 [lI b.l] [.pv (B z)] ∧ Φ [.pv (B z)]) (Φ [.pv (B false)])) (Φ [.pv (B false)]) := by
  have e1 : (b.next == 0 || (b.on && b.next == 1)) = true := by simpa using hn
  have e : tailB b n = (x && each b.count 4611686018427387904 && each b.l 4611686018427387904) := by unfold tailB; rw [e1, hx, Bool.true_and]
  rw [e] at hΦ
  refine Fk_of (fun h => ⟨_, c28 _ hc, Fk_of (fun h' => ⟨_, c28 _ hl, hΦ _ ?_⟩) fun h' => hΦ _ ?_⟩) fun h => hΦ _ ?_
  · rw [rvB, h, h']; rfl
  · rw [rvB, h, h']; rfl
  · rw [rvB, h]; rfl
theorem c11 (b : Barrier) (n : Int) (hf : few b = true) : Cl 11 [eBarrier b, I n] [.pv (B (rightB b n))] := t11 _ _ (by
  simp only [few, Bool.and_eq_true, decide_eq_true_eq] at hf
  simp only [P11, SmA_true, true_and, Jn, Ln, List.length_map]
  intro hl _ _
  refine Fk_of (fun h => ?_) fun h1 => Fk_of (fun h => ?_) fun h2 => Fk_of (fun h => ?_) fun h3 => Fk_of (fun h => ?_) fun h4 => ?_
  · simp at h; rw [rvB, right_short (by omega)]
  · simp at h; rw [rvB, right_short (by omega)]
  · simp at h; rw [rvB, right_short (by omega)]
  · simp at h; rw [rvB, right_short (by omega)]
  simp only [decide_eq_false_iff_not, bne_eq_false_iff_eq] at h1 h2 h3 h4
  rw [right_tail (by omega) (by omega) h3 h4, ackOk]
  refine Lo_two b.acked b.count (fun a c => a || c == (0 : Int)) (fun i => ((i : Int), (), ())) (by omega) (G := fun c => rowEq (fun a c => a || c == (0 : Int)) b.acked b.count = c) ?_ ?_ rfl
  · intro L hg
    rw [hg]
    simp only [Bool.true_and]
    refine Fk_f (by simp) (Fk_of (fun h5 => ?_) fun h5 => Fk_of (fun h6 => ?_) fun h6 => ?_)
    · refine Fk_of (fun hd => ?_) fun hd => ?_ <;> exact tail_real b n (by omega) (by omega) _ (by simp [hd]) (fun r h => h) (.inl (by simpa using h5))
    · refine Fk_of (fun hd => Fk_of (fun h7 => ?_) fun h7 => ?_) fun hd => Fk_of (fun h7 => ?_) fun h7 => ?_
      · exact tail_real b n (by omega) (by omega) _ (by simp [hd]) (fun r h => h) (.inr ⟨h6, by simpa using h7⟩)
      · simp [rvB, tailB, h5, h6, h7]
      · exact tail_real b n (by omega) (by omega) _ (by simp [hd]) (fun r h => h) (.inr ⟨h6, by simpa using h7⟩)
      · simp [rvB, tailB, h5, h6, h7]
    · refine Fk_of (fun hd => ?_) fun hd => ?_ <;> simp [rvB, tailB, h5, h6]
  · intro L i x y hi hx hy hf hL
    refine Fk_t (by simpa using hi) (Ix_nat hx (Fk_of (fun h => Ix_nat hy (Fk_of (fun h' => ?_) fun h' => ?_)) fun h => ?_))
    · have := hf (by simp at h h'; simp [h, h'])
      rw [rvB, this]; rfl
    · rw [w64_succ hi (by omega)]; exact hL (by simp at h h'; simp [h'])
    · rw [w64_succ hi (by omega)]; exact hL (by simp at h; simp [h]))
theorem c10 (b : Barrier) (n : Int) : Cl 10 [eBarrier b, I n] [.pv (B (rightB b n))] := t10 _ _ (by
  simp only [P10, SmA_true, true_and, List.length_map]
  refine Jn_mid (fun _ => 2 ≤ n ∧ n ≤ 64 ∧ (b.acked.length : Int) = n ∧ (b.count.length : Int) = n ∧ (b.next = 0 ∨ b.on = true ∧ b.next = 1)) ?_ ?_
  · intro j hj
    simp only [Ln, List.length_map]
    intro _ _ _
    refine Fk_of (fun h => ?_) fun h1 => Fk_of (fun h => ?_) fun h2 => Fk_of (fun h => ?_) fun h3 => Fk_of (fun h => ?_) fun h4 => Fk_of (fun h => ?_) fun h5 => Fk_of (fun h => ?_) fun h6 => Fk_of (fun h7 => Fk_of (fun h8 => ?_) fun h8 => ?_) fun h7 => ?_
    · simp at h; rw [rvB, right_short (by omega)]
    · simp at h; rw [rvB, right_short (by omega)]
    · simp at h; rw [rvB, right_short (by omega)]
    · simp at h; rw [rvB, right_short (by omega)]
    · rw [rvB, right_no]; rintro ⟨m, _, r⟩; have := r.nx; simp at h; omega
    · rw [rvB, right_no]; rintro ⟨m, _, r⟩; have := r.nx; simp at h; omega
    · rw [rvB, right_no]; rintro ⟨m, _, r⟩; have := r.nx; simp at h7 h8; rw [h8] at this; simp at this; omega
    · simp at h1 h2 h3 h4 h7 h8; exact hj _ ⟨by omega, by omega, h3, h4, .inr ⟨h8, h7⟩⟩
    · simp at h1 h2 h3 h4 h5 h6 h7; exact hj _ ⟨by omega, by omega, h3, h4, .inl (by omega)⟩
  · rintro _ ⟨h1, h2, h3, h4, hn⟩
    have e1 : (b.next == 0 || (b.on && b.next == 1)) = true := by simpa using hn
    rw [right_tail h1 h2 h3 h4, ackOk]
    refine Lo_two b.acked b.count (fun a c => a || c == (0 : Int)) (fun i => ((i : Int), (), ())) (by omega) (G := fun c => rowEq (fun a c => a || c == (0 : Int)) b.acked b.count = c) ?_ ?_ rfl
    · intro L hg
      rw [hg]
      simp only [Bool.true_and]
      refine Fk_f (by simp; omega) ?_
      refine Jn_mid (fun _ => (if b.done then (b.l.length : Int) == n else (b.l.length : Int) == 0) = true) ?_ ?_
      · intro j hj
        simp only [Ln, List.length_map]
        intro _ _ _
        refine Fk_of (fun hd => Fk_of (fun h => ?_) fun h => Fk_of (fun h' => ?_) fun h' => ?_) fun hd => Fk_of (fun h' => Fk_of (fun h => ?_) fun h => ?_) fun h' => ?_
        · simp at h; simp [rvB, tailB, hd]; intros; omega
        · rw [hd] at h'; cases h'
        · exact hj _ (by simp at h; simp [hd, h])
        · simp at h; simp [rvB, tailB, hd]; intro _ e; simp [e] at h
        · exact hj _ (by simp at h; simp [hd, h])
        · rw [hd] at h'; cases h'
      · rintro _ hlen
        refine ⟨_, c27 _, _, c27 _, Fk_of (fun h => ?_) fun h => ?_⟩
        · rw [rvB]; unfold tailB; rw [e1, hlen, h]; rfl
        · rw [rvB]; unfold tailB; rw [e1, hlen, h]; rfl
    · intro L i x y hi hx hy hf hL
      refine Fk_t (by simp; omega) ?_
      refine Jn_mid (fun v => v.1 = (i : Int) ∧ (x || y == 0) = true) ?_ ?_
      · intro j hj
        refine Ix_nat hx (Fk_of (fun h => Ix_nat hy (Fk_of (fun h' => ?_) fun h' => ?_)) fun h => ?_)
        · have := hf (by simp at h h'; simp [h, h'])
          rw [rvB, this]; rfl
        · exact hj _ ⟨rfl, by simp at h'; simp [h']⟩
        · exact hj _ ⟨rfl, by simp at h; simp [h]⟩
      · rintro ⟨_, _, _⟩ ⟨rfl, hxy⟩
        rw [w64_succ hi (by omega)]; exact hL hxy)
end Go.Proofs.Ytnekeanhkkfpnaa.M
