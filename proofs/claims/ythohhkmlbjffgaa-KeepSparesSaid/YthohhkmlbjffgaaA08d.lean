import Derived.Test.YthohhkmlbjffgaaA08c
set_option linter.all false
set_option linter.unusedVariables false
set_option linter.unusedSimpArgs false
set_option linter.unnecessarySimpa false
namespace Go.Proofs.Ythohhkmlbjffgaa.M
open Go Go.Mir Go.Proofs


theorem u8_mod (a : UInt8) (m : Int) (hm : 0 < m) : 0 ≤ Int.tmod (w64 (a.toNat : Int)) m ∧ Int.tmod (w64 (a.toNat : Int)) m < m := by
  have := a.toNat_lt
  rw [w64_id (by omega) (by omega)]
  exact ⟨Int.tmod_nonneg _ (by omega), Int.tmod_lt_of_pos _ hm⟩
theorem room_range (k : Keep) (b s : Int) : 0 ≤ roomK k b s ∧ roomK k b s ≤ 64 := by unfold roomK; split <;> omega
theorem tok_may {k : Keep} (h1 : 1 ≤ k.next) (h2 : k.next ≤ 4611686018427387904) : mayI (numb k tokI) = true := by
  have : numb k tokI = ⟨3, k.next, 0, 0, 0, 0, [], []⟩ := by simp [numb, tokI]; omega
  rw [this]
  simp [mayI, ruleOf, bare, noth, within, h1, h2]
theorem keepSpares (x : KeepSparesIn) : Cl 8 [eKeepSparesIn x] [.pv (B true)] := t8 _ (by
  simp only [P8, rvB, SmA_true, true_and, Jn, List.length_map, Nz, Ln]
  obtain ⟨n0, n1⟩ := u8_mod x.buf 65 (by omega)
  obtain ⟨a0, a1⟩ := u8_mod x.a 70 (by omega)
  obtain ⟨b0, b1⟩ := u8_mod x.b 10 (by omega)
  generalize Int.tmod (w64 (x.buf.toNat : Int)) 65 = n at *
  generalize Int.tmod (w64 (x.a.toNat : Int)) 70 = a at *
  generalize Int.tmod (w64 (x.b.toNat : Int)) 10 = b at *
  rw [w64_id (n := a + b) (by omega) (by omega)]
  refine ⟨_, c9, _, c10 _, Fk_of (fun _ => rfl) fun h1 => ⟨_, c12 _, Fk_of (fun _ => rfl) fun h2 => Fk_of (fun _ => rfl) fun h3 => ⟨by omega, by omega, by omega, _, c22 _ _ _, _, _, _, (c18 x.k tokI n a).dull rfl, fun hl => ?_⟩⟩⟩
  simp only [Bool.not_eq_false', decide_eq_false_iff_not] at h2 h3
  have hr := h2
  simp [rightK] at hr
  have hm := tok_may (k := x.k) (by omega) (by omega)
  rw [w64_id (n := n - x.k.l.length) (by omega) (by omega)]
  have key : ∀ free : Int, free = (if n - (x.k.l.length : Int) < 0 then 0 else n - x.k.l.length) → Fk true (Fk (roomK x.k n 0 == free) (∃ x10, Cl 22 [eKeep x.k, I n, I (a + b)] [.pv (I x10)] ∧ ∃ x11, Cl 22 [eKeep x.k, I n, I a] [.pv (I x11)] ∧ Fk (decide (x10 ≤ x11)) (∃ x12, Cl 22 [eKeep x.k, I n, I a] [.pv (I x12)] ∧ (((pushK x.k tokI n a).2.2 == 0) == decide (0 < x12)) = true) (false = true)) (false = true)) (false = true) := by
    intro free hf
    refine Fk_t rfl (Fk_t ?_ ⟨_, c22 _ _ _, _, c22 _ _ _, Fk_t ?_ ⟨_, c22 _ _ _, ?_⟩⟩)
    · simp [roomK, hf]; grind
    · simp [roomK]; grind
    · by_cases h0 : roomK x.k n a = 0
      · rw [push_full hm h0]; simp [h0]
      · rw [push_ok hm h0]
        have := (room_range x.k n a).1
        simp; omega
  refine Fk_of (fun h => ?_) fun h => ?_
  · exact key 0 (by rw [if_pos (by simpa using h)])
  · exact key _ (by rw [if_neg (by simpa using h)]))
end Go.Proofs.Ythohhkmlbjffgaa.M
