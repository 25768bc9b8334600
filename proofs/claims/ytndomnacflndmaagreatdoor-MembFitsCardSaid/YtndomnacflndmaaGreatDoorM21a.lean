import Derived.Test.YtndomnacflndmaaGreatDoorG20
set_option linter.all false
set_option linter.unusedVariables false
set_option linter.unusedSimpArgs false
set_option linter.unnecessarySimpa false
namespace Go.Proofs.YtndomnacflndmaaGreatDoor.M
open Go Go.Mir Go.Proofs
set_option maxHeartbeats 4000000

noncomputable def within (n lo hi : Int) : Bool := decide (lo ≤ n) && decide (n ≤ hi)
theorem c20 (n lo hi : Int) : Cl 20 [I n, I lo, I hi] [.pv (B (within n lo hi))] := t20 _ _ _ (by
  refine Fk_of (fun h => ?_) fun h => ?_ <;> exact rvB.2 (by simp only [within, h, Bool.true_and, Bool.false_and]))
theorem c29 (n lo hi : Int) : Cl 29 [I n, I lo, I hi] [.pv (B (within n lo hi))] := t29 _ _ _ (by
  refine Fk_of (fun h => ?_) fun h => ?_ <;> exact rvB.2 (by simp only [within, h, Bool.true_and, Bool.false_and]))
/-- How many pieces a message has. -/
noncomputable def many (n m : Int) : Int := if n < 0 ∨ m < 1 then 0 else if n = 0 then 1 else Int.tdiv (n - 1) m + 1
theorem tdiv_le {n m : Int} (h0 : 0 ≤ n) (h1 : 1 ≤ m) : 0 ≤ Int.tdiv n m ∧ Int.tdiv n m ≤ n := ⟨Int.tdiv_nonneg h0 (by omega), Int.tdiv_le_self _ h0⟩
theorem c27 (n m : Int) (hn : n ≤ 9223372036854775807) : Cl 27 [I n, I m] [.pv (I (many n m))] := t27 _ _ (by
  refine Fk_of (fun h => ?_) fun h1 => Fk_of (fun h => ?_) fun h2 => Fk_of (fun h => ?_) fun h3 => ⟨by simp at h2; omega, ?_⟩
  · simp at h; rw [many, if_pos (.inl h)]; exact .refl _
  · simp at h; rw [many, if_pos (.inr h)]; exact .refl _
  · simp at h h1 h2; rw [many, if_neg (by omega), if_pos h]; exact .refl _
  · simp at h1 h2 h3
    obtain ⟨g1, g2⟩ := tdiv_le (n := n - 1) (m := m) (by omega) (by omega)
    rw [many, if_neg (by omega), if_neg h3, w64_id (n := n - 1) (by omega) (by omega), w64_id (n := Int.tdiv (n - 1) m) (by omega) (by omega), w64_id (by omega) (by omega)]
    exact .refl _)
theorem many_ref {n m : Int} (h0 : 0 < n) (h1 : 1 ≤ m) : Int.tdiv (n - 1) m + 1 = if 0 < Int.tmod n m then Int.tdiv n m + 1 else Int.tdiv n m := by
  rw [Int.tdiv_eq_ediv_of_nonneg (by omega), Int.tdiv_eq_ediv_of_nonneg (by omega), Int.tmod_eq_emod_of_nonneg (by omega)]
  have e := Int.mul_ediv_add_emod n m
  have e1 := Int.emod_nonneg n (show m ≠ 0 by omega)
  have e2 := Int.emod_lt_of_pos n (show 0 < m by omega)
  generalize hq : n / m = q at *
  generalize hr : n % m = r at *
  split
  · rename_i hp
    have : (n - 1) / m = q := by
      have : n - 1 = (r - 1) + m * q := by omega
      rw [this, Int.add_mul_ediv_left _ _ (by omega), Int.ediv_eq_zero_of_lt (by omega) (by omega)]; omega
    omega
  · have : r = 0 := by omega
    have : (n - 1) / m = q - 1 := by
      have : n - 1 = (m - 1) + m * (q - 1) := by rw [Int.mul_sub, Int.mul_one]; omega
      rw [this, Int.add_mul_ediv_left _ _ (by omega), Int.ediv_eq_zero_of_lt (by omega) (by omega)]; omega
    omega
theorem c30 (n m : Int) (hn : n ≤ 9223372036854775807) : Cl 30 [I n, I m] [.pv (I (many n m))] := t30 _ _ (by
  refine Fk_of (fun h => ?_) fun h1 => Fk_of (fun h => ?_) fun h2 => ?_
  · simp at h; rw [many, if_pos (.inl h)]; exact .refl _
  · simp at h; rw [many, if_pos (.inr h)]; exact .refl _
  simp at h1 h2
  obtain ⟨g1, g2⟩ := tdiv_le (n := n) (m := m) (by omega) (by omega)
  refine ⟨by omega, Jn_mid (fun v => v.1 = many n m) (fun j hj => ⟨by omega, Fk_of (fun h => ?_) fun h => Fk_of (fun h' => ?_) fun h' => ?_⟩) fun v hv => by rw [hv]; exact .refl _⟩
  · simp at h
    have hn0 : 0 < n := by
      rcases Int.lt_or_eq_of_le h1 with h' | h'
      · exact h'
      · rw [← h'] at h; simp at h
    have hle : Int.tdiv n m + 1 ≤ 9223372036854775807 := by
      have := many_ref (n := n) (m := m) hn0 h2
      rw [if_pos h] at this
      have := tdiv_le (n := n - 1) (m := m) (by omega) h2
      omega
    refine hj _ ?_
    show w64 (w64 (Int.tdiv n m) + 1) = _
    rw [w64_id (n := Int.tdiv n m) (by omega) (by omega), w64_id (by omega) (by omega), many, if_neg (by omega), if_neg (by omega), many_ref hn0 h2, if_pos h]
  · simp at h'
    subst h'
    refine hj _ ?_
    show w64 (w64 (Int.tdiv 0 m) + 1) = _
    rw [Int.zero_tdiv, many, if_neg (by omega), if_pos rfl]; rfl
  · simp at h h'
    have hn0 : 0 < n := by omega
    refine hj _ ?_
    show w64 (Int.tdiv n m) = _
    rw [w64_id (by omega) (by omega), many, if_neg (by omega), if_neg h', many_ref hn0 h2, if_neg (by omega)])
theorem c22 (a b : Int) : Cl 22 [I a, I b] [.pv (eRate ⟨a, b⟩)] := t22 _ _ (.refl _)
theorem c25 (a b : Int) : Cl 25 [I a, I b] [.pv (eRate ⟨a, b⟩)] := t25 _ _ (.refl _)
noncomputable def rightRate (r : Rate) (l m b : Int) : Bool := decide (1 ≤ l) && decide (l ≤ m) && decide (m ≤ 1048576) && decide (1 ≤ b) && decide (b ≤ 1048576) && decide (l ≤ r.now) && decide (r.now ≤ m) && decide (0 ≤ r.left) && decide (r.left ≤ b)
theorem c28 (r : Rate) (l m b : Int) : Cl 28 [eRate r, I l, I m, I b] [.pv (B (rightRate r l m b))] := t28 _ _ _ _ (by
  unfold P28 rightRate
  refine Fk_of (fun h1 => Fk_of (fun h2 => Fk_of (fun h3 => Fk_of (fun h4 => Fk_of (fun h5 => Fk_of (fun h6 => Fk_of (fun h7 => Fk_of (fun h8 => ?_) fun h => ?_) fun h => ?_) fun h => ?_) fun h => ?_) fun h => ?_) fun h => ?_) fun h => ?_) fun h => ?_
  all_goals exact rvB.2 (by simp only [*, Bool.true_and, Bool.false_and, Bool.and_true, Bool.and_false]))
noncomputable def mayRate (l m b : Int) : Bool := decide (1 ≤ l) && decide (l ≤ m) && decide (m ≤ 1048576) && decide (1 ≤ b) && decide (b ≤ 1048576)
theorem c31 (l m b : Int) : Cl 31 [I l, I m, I b] [.pv (B (mayRate l m b))] := t31 _ _ _ (by
  unfold P31 mayRate
  refine Fk_of (fun h1 => Fk_of (fun h2 => Fk_of (fun h3 => Fk_of (fun h4 => ?_) fun h => ?_) fun h => ?_) fun h => ?_) fun h => ?_
  all_goals exact rvB.2 (by simp only [*, Bool.true_and, Bool.false_and, Bool.and_true, Bool.and_false]))
theorem rate_may (l m b : Int) : rightRate ⟨m, b⟩ l m b = mayRate l m b := by
  rw [Bool.eq_iff_iff]; simp only [rightRate, mayRate, Bool.and_eq_true, decide_eq_true_eq]; omega
/-- Which configurations may be. -/
noncomputable def fits (c : Conf) : Bool := within c.n 2 64 && within c.mtu 1 1024 && within c.buf 8 64 && decide (0 ≤ c.msg) && (decide (many c.msg c.mtu ≤ 32) && decide (many c.msg c.mtu ≤ w64 (c.buf - 6)) && decide (many c.msg c.mtu ≤ c.burst)) && (within c.quota 1 64 && within c.queue 1 64) && (within c.wait 1 1000 && within c.every 1 1000 && within c.window 1 1000 && within c.hyst 1 1000) && rightRate ⟨c.rate, c.burst⟩ c.least c.rate c.burst && decide (0 ≤ c.low) && decide (c.low < c.high) && within c.first 0 1
theorem c31' (l m b : Int) : Cl 31 [I l, I m, I b] [.pv (B (rightRate ⟨m, b⟩ l m b))] := by rw [rate_may]; exact c31 l m b
end Go.Proofs.YtndomnacflndmaaGreatDoor.M
